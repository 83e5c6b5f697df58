/- What the functions answer that the statement reaches. No condition. -/
import Derived.Test.YtdbpjkehidechaaGreatFn2
import Derived.Deep.RegionLaw
set_option linter.unusedVariables false
set_option linter.unusedSimpArgs false
set_option linter.unusedSectionVars false
namespace Go.Sh
def up1 (v i : Nat) : Nat := if i < v then i else i + 1
def lessX (x v : Nat) : Nat := (x &&& (2 ^ v - 1)) ||| ((x >>> (v + 1)) <<< v)
theorem lessX_bit (x v i : Nat) : (lessX x v).testBit i = x.testBit (up1 v i) := by
 unfold lessX up1
 rw [Nat.testBit_or, Nat.testBit_and, Nat.testBit_two_pow_sub_one, Nat.testBit_shiftLeft, Nat.testBit_shiftRight]
 by_cases h : i < v
 ·rw [if_pos h]
  have : ¬ i ≥ v := by omega
  simp [h, this]
 ·rw [if_neg h]
  have : i ≥ v := by omega
  simp [h, this]
  congr 1
  omega
def lessL (r : List Nat) (v : Nat) : List Nat := (r.eraseIdx v).map (lessX · v)
def offX (x y : Nat) : Nat := x ^^^ (x &&& y)
def mergeX (r : List Nat) (a b i x : Nat) : Nat := if i = a then offX (r.getD a 0 ||| r.getD b 0) (2 ^ a ||| 2 ^ b) else if x.testBit b then x ||| 2 ^ a else x
def mergeL (r : List Nat) (a b : Nat) : List Nat := (List.range r.length).map fun i => mergeX r a b i (r.getD i 0)
def mergedL (r : List Nat) (a b : Nat) : List Nat := lessL (mergeL r a b) b
def bitL (r : List Nat) (a b : Nat) : Bool := (r.getD a 0).testBit b
def isB (r : List Nat) (p q : Nat) : Bool := (r.getD p 0 &&& offX 31 (2 ^ p ||| 2 ^ q) == offX 31 (2 ^ p ||| 2 ^ q)) && (r.getD q 0 &&& offX 31 (2 ^ p ||| 2 ^ q) == offX 31 (2 ^ p ||| 2 ^ q))
def isL (r : List Nat) (k : Int) : Bool :=
 if k = 1 then (r.getD 0 0 ||| 1 == 15) && (r.getD 1 0 ||| 2 == 15) && (r.getD 2 0 ||| 4 == 15) && (r.getD 3 0 ||| 8 == 15)
 else (List.range 5).any fun p => (List.range p).any fun q => isB r p q
def sizeN (k : Int) : Nat := (patG k).1.toNat
def comesL : Nat -> List Nat -> Int -> Bool
 | 0, r, k => decide (r.length = sizeN k) && isL r k
 | f + 1, r, k => if r.length <= sizeN k then decide (r.length = sizeN k) && isL r k else
  ((List.range r.length).any fun a => (List.range r.length).any fun b => decide (a < b) && (bitL r a b && comesL f (mergedL r a b) k)) || (List.range r.length).any fun v => comesL f (lessL r v) k
def hasL (r : List Nat) (k : Int) : Bool := comesL r.length r k
theorem lessL_length {r : List Nat} {v : Nat} (h : v < r.length) : (lessL r v).length = r.length - 1 := by
 unfold lessL
 rw [List.length_map, List.length_eraseIdx_of_lt h]
theorem mergeL_length (r : List Nat) (a b : Nat) : (mergeL r a b).length = r.length := by simp [mergeL]
theorem mergedL_length {r : List Nat} {a b : Nat} (h : b < r.length) : (mergedL r a b).length = r.length - 1 := by
 unfold mergedL
 rw [lessL_length (by rw [mergeL_length]; exact h), mergeL_length]
theorem up1_ne (v i : Nat) : up1 v i ≠ v := by unfold up1; split <;> omega
theorem up1_lt {v i n : Nat} (h : i < n - 1) : up1 v i < n := by unfold up1; split <;> omega
def dn1 (v i : Nat) : Nat := if i < v then i else i - 1
theorem up_dn {v i : Nat} (h : i ≠ v) : up1 v (dn1 v i) = i := by
 unfold up1 dn1
 by_cases h1 : i < v
 ·rw [if_pos h1, if_pos h1]
 ·rw [if_neg h1, if_neg (by omega)]; omega
theorem dn_lt {v i n : Nat} (h : i ≠ v) (hv : v < n) (hi : i < n) : dn1 v i < n - 1 := by unfold dn1; split <;> omega
theorem up_inj {v i j : Nat} (h : up1 v i = up1 v j) : i = j := by unfold up1 at h; split at h <;> split at h <;> omega
theorem lessL_getD (r : List Nat) (v i : Nat) : (lessL r v).getD i 0 = lessX (r.getD (up1 v i) 0) v := by
 have z : lessX 0 v = 0 := by simp [lessX]
 unfold lessL up1
 rw [List.getD_eq_getElem?_getD, List.getElem?_map, List.getElem?_eraseIdx, List.getD_eq_getElem?_getD]
 split
 ·cases r[i]? with
  | none => simp [z]
  | some x => simp
 ·cases r[i + 1]? with
  | none => simp [z]
  | some x => simp
theorem bit_less (r : List Nat) (v i j : Nat) : bitL (lessL r v) i j = bitL r (up1 v i) (up1 v j) := by
 unfold bitL
 rw [lessL_getD, lessX_bit]
structure Sq (r : List Nat) : Prop where
 bnd : ∀ a b, bitL r a b = true -> b < r.length
 sym : ∀ a b, bitL r a b = true -> bitL r b a = true
 irr : ∀ a, bitL r a a = false
theorem Sq.lt {r : List Nat} (h : Sq r) {a b : Nat} (hb : bitL r a b = true) : a < r.length := h.bnd _ _ (h.sym _ _ hb)
theorem off_bit (x y j : Nat) : (offX x y).testBit j = (x.testBit j && !y.testBit j) := by
 unfold offX
 rw [Nat.testBit_xor, Nat.testBit_and]
 cases x.testBit j <;> cases y.testBit j <;> rfl
theorem off2_bit (x a b j : Nat) : (offX x (2 ^ a ||| 2 ^ b)).testBit j = true ↔ x.testBit j = true /\ j ≠ a /\ j ≠ b := by
 rw [off_bit, Nat.testBit_or, Nat.testBit_two_pow, Nat.testBit_two_pow]
 simp only [Bool.and_eq_true, Bool.not_eq_true', Bool.or_eq_false_iff, decide_eq_false_iff_not]
 constructor
 ·rintro ⟨h1, h2, h3⟩; exact ⟨h1, fun e => h2 e.symm, fun e => h3 e.symm⟩
 ·rintro ⟨h1, h2, h3⟩; exact ⟨h1, fun e => h2 e.symm, fun e => h3 e.symm⟩
theorem mergeL_getD (r : List Nat) (a b i : Nat) (h : i < r.length) : (mergeL r a b).getD i 0 = mergeX r a b i (r.getD i 0) := by
 unfold mergeL
 rw [List.getD_eq_getElem?_getD, List.getElem?_map, List.getElem?_range h]; rfl
theorem getD_out {r : List Nat} {i : Nat} (h : ¬ i < r.length) : r.getD i 0 = 0 := by
 rw [List.getD_eq_getElem?_getD, List.getElem?_eq_none (by omega)]; rfl
theorem bit_merge {r : List Nat} {a b i j : Nat} (h : i < r.length) : bitL (mergeL r a b) i j = true ↔ (i = a /\ (bitL r a j = true \/ bitL r b j = true) /\ j ≠ a /\ j ≠ b) \/ (i ≠ a /\ (bitL r i j = true \/ (bitL r i b = true /\ j = a))) := by
 unfold bitL
 rw [mergeL_getD _ _ _ _ h]
 unfold mergeX
 by_cases ha : i = a
 ·rw [if_pos ha, off2_bit, Nat.testBit_or]
  simp [ha]
 ·rw [if_neg ha]
  split
  ·rename_i hb
   rw [Nat.testBit_or, Nat.testBit_two_pow]
   simp only [Bool.or_eq_true, decide_eq_true_eq, ha, false_and, false_or, not_false_eq_true, true_and, hb, ne_eq]
   constructor
   ·rintro (h | h)
    ·exact .inl h
    ·exact .inr h.symm
   ·rintro (h | h)
    ·exact .inl h
    ·exact .inr h.symm
  ·rename_i hb
   constructor
   ·intro h2; exact .inr ⟨ha, .inl h2⟩
   ·rintro (⟨h2, _⟩ | ⟨_, h2 | ⟨h2, _⟩⟩)
    ·exact absurd h2 ha
    ·exact h2
    ·exact absurd h2 hb
def mAdj (r : List Nat) (a b x y : Nat) : Prop := (x = a /\ (bitL r a y = true \/ bitL r b y = true) /\ y ≠ a /\ y ≠ b) \/ (x ≠ a /\ (bitL r x y = true \/ (bitL r x b = true /\ y = a)))
theorem bit_merged {r : List Nat} {a b i j : Nat} (h : i < r.length - 1) : bitL (mergedL r a b) i j = true ↔ mAdj r a b (up1 b i) (up1 b j) := by
 unfold mergedL
 rw [bit_less, bit_merge (up1_lt h)]; rfl
theorem bit_len {r : List Nat} {a b : Nat} (h : bitL r a b = true) : a < r.length := by
 apply Classical.byContradiction
 intro hn
 unfold bitL at h
 rw [getD_out hn] at h
 simp at h
theorem Sq.less {r : List Nat} (h : Sq r) {v : Nat} (hv : v < r.length) : Sq (lessL r v) := by
 refine ⟨fun a b hb => ?_, fun a b hb => ?_, fun a => ?_⟩
 ·rw [bit_less] at hb
  have := h.bnd _ _ hb
  rw [lessL_length hv]
  unfold up1 at this
  split at this <;> omega
 ·rw [bit_less] at hb ⊢; exact h.sym _ _ hb
 ·rw [bit_less]; exact h.irr _
theorem Sq.merged {r : List Nat} (h : Sq r) {a b : Nat} (ha : a < b) (hb : b < r.length) : Sq (mergedL r a b) := by
 have hl := mergedL_length (a := a) hb
 have key : ∀ i j, bitL (mergedL r a b) i j = true -> i < r.length - 1 /\ mAdj r a b (up1 b i) (up1 b j) := fun i j hij => by
  have hi := bit_len hij
  rw [hl] at hi
  exact ⟨hi, (bit_merged hi).1 hij⟩
 have sm : ∀ x y, x ≠ b -> y ≠ b -> mAdj r a b x y -> mAdj r a b y x := fun x y hx hy hm => by
  rcases hm with ⟨rfl, h1, h2, h3⟩ | ⟨h1, h2⟩
  ·refine .inr ⟨h2, ?_⟩
   rcases h1 with h1 | h1
   ·exact .inl (h.sym _ _ h1)
   ·exact .inr ⟨h.sym _ _ h1, rfl⟩
  ·by_cases e : y = a
   ·subst e
    refine .inl ⟨rfl, ?_, h1, hx⟩
    rcases h2 with h2 | ⟨h2, _⟩
    ·exact .inl (h.sym _ _ h2)
    ·exact .inr (h.sym _ _ h2)
   ·refine .inr ⟨e, .inl ?_⟩
    rcases h2 with h2 | ⟨_, h2⟩
    ·exact h.sym _ _ h2
    ·exact absurd h2 e
 have bd : ∀ i j, mAdj r a b (up1 b i) (up1 b j) -> j < r.length - 1 := fun i j hm => by
  have : up1 b j < r.length := by
   rcases hm with ⟨_, h1 | h1, _⟩ | ⟨_, h1 | ⟨_, h1⟩⟩
   ·exact h.bnd _ _ h1
   ·exact h.bnd _ _ h1
   ·exact h.bnd _ _ h1
   ·omega
  unfold up1 at this
  split at this <;> omega
 refine ⟨fun i j hij => ?_, fun i j hij => ?_, fun i => ?_⟩
 ·rw [hl]; exact bd _ _ (key _ _ hij).2
 ·obtain ⟨hi, hm⟩ := key _ _ hij
  exact (bit_merged (bd _ _ hm)).2 (sm _ _ (up1_ne _ _) (up1_ne _ _) hm)
 ·cases hc : bitL (mergedL r a b) i i with
  | false => rfl
  | true =>
   obtain ⟨hi, hm⟩ := key _ _ hc
   rcases hm with ⟨h1, _, h2, _⟩ | ⟨h1, h2 | ⟨_, h2⟩⟩
   ·exact absurd h1 h2
   ·rw [h.irr] at h2; cases h2
   ·exact absurd h2 h1
structure Mod (r : List Nat) (m : Nat) (pat : List (Nat × Nat)) (c : Nat -> Nat) : Prop where
 some : ∀ i, i < m -> ∃ x, x < r.length /\ c x = i
 conn : ∀ i, i < m -> ∀ P : Nat -> Prop, (∃ x, x < r.length /\ c x = i /\ P x) -> (∀ x y, c x = i -> c y = i -> bitL r x y = true -> P x -> P y) -> ∀ x, x < r.length -> c x = i -> P x
 meet : ∀ q ∈ pat, ∃ x y, bitL r x y = true /\ c x = q.1 /\ c y = q.2
theorem Mod.less {r : List Nat} {m : Nat} {pat : List (Nat × Nat)} {c : Nat -> Nat} (h : Mod r m pat c) (hp : ∀ q ∈ pat, q.1 < m /\ q.2 < m /\ q.1 ≠ q.2) {v : Nat} (hv : v < r.length) (hc : m <= c v) : Mod (lessL r v) m pat fun i => c (up1 v i) := by
 have hl := lessL_length hv
 refine ⟨fun i hi => ?_, fun i hi P hP hcl x hx hcx => ?_, fun q hq => ?_⟩
 ·obtain ⟨x, h1, h2⟩ := h.some i hi
  have hx : x ≠ v := fun e => by subst e; omega
  exact ⟨dn1 v x, by rw [hl]; exact dn_lt hx hv h1, by rw [up_dn hx]; exact h2⟩
 ·have := h.conn i hi (fun x => ∃ y, up1 v y = x /\ P y) ?_ ?_ (up1 v x) (by rw [hl] at hx; exact up1_lt hx) hcx
  ·obtain ⟨y, h1, h2⟩ := this
   rw [<- up_inj h1]; exact h2
  ·obtain ⟨x, h1, h2, h3⟩ := hP
   exact ⟨up1 v x, by rw [hl] at h1; exact up1_lt h1, h2, x, rfl, h3⟩
  ·rintro x y cx cy hb ⟨x', rfl, hPx⟩
   have hy : y ≠ v := fun e => by subst e; omega
   refine ⟨dn1 v y, up_dn hy, hcl x' _ cx (by rw [up_dn hy]; exact cy) ?_ hPx⟩
   rw [bit_less, up_dn hy]; exact hb
 ·obtain ⟨x, y, h1, h2, h3⟩ := h.meet q hq
  have hx : x ≠ v := fun e => by subst e; have := hp q hq; omega
  have hy : y ≠ v := fun e => by subst e; have := hp q hq; omega
  exact ⟨dn1 v x, dn1 v y, by rw [bit_less, up_dn hx, up_dn hy]; exact h1, by rw [up_dn hx]; exact h2, by rw [up_dn hy]; exact h3⟩
def toM (a b x : Nat) : Nat := if x = b then a else dn1 b x
theorem Mod.merged {r : List Nat} {m : Nat} {pat : List (Nat × Nat)} {c : Nat -> Nat} (hs : Sq r) (h : Mod r m pat c) (hp : ∀ q ∈ pat, q.1 < m /\ q.2 < m /\ q.1 ≠ q.2) {a b : Nat} (ha : a < b) (hb : b < r.length) (hc : c a = c b) : Mod (mergedL r a b) m pat fun i => c (up1 b i) := by
 have hl := mergedL_length (a := a) hb
 have up_a : up1 b a = a := by unfold up1; rw [if_pos ha]
 have cT : ∀ x, c (up1 b (toM a b x)) = c x := fun x => by
  unfold toM
  split
  ·rename_i e; rw [up_a, e, hc]
  ·rename_i e; rw [up_dn e]
 have lT : ∀ x, x < r.length -> toM a b x < r.length - 1 := fun x hx => by
  unfold toM
  split
  ·omega
  ·rename_i e; exact dn_lt e hb hx
 have uT : ∀ x, toM a b (up1 b x) = x := fun x => by
  unfold toM
  rw [if_neg (up1_ne _ _)]
  exact up_inj (up_dn (up1_ne _ _))
 have bT : ∀ x y, bitL r x y = true -> toM a b x = toM a b y \/ bitL (mergedL r a b) (toM a b x) (toM a b y) = true := fun x y hxy => by
  by_cases e : toM a b x = toM a b y
  ·exact .inl e
  refine .inr ((bit_merged (lT x (hs.lt hxy))).2 ?_)
  by_cases hx : x = b
  ·subst hx
   have ex : up1 x (toM a x x) = a := by unfold toM; rw [if_pos rfl, up_a]
   have hy : y ≠ x := fun h => e (by rw [h])
   have ey : up1 x (toM a x y) = y := by unfold toM; rw [if_neg hy, up_dn hy]
   rw [ex, ey]
   refine .inl ⟨rfl, .inr hxy, fun h => e ?_, hy⟩
   have : up1 x (toM a x x) = up1 x (toM a x y) := by rw [ex, ey, h]
   exact up_inj this
  ·have ex : up1 b (toM a b x) = x := by unfold toM; rw [if_neg hx, up_dn hx]
   by_cases hy : y = b
   ·subst hy
    have ey : up1 y (toM a y y) = a := by unfold toM; rw [if_pos rfl, up_a]
    rw [ex, ey]
    refine .inr ⟨fun h => e ?_, .inr ⟨hxy, rfl⟩⟩
    have : up1 y (toM a y x) = up1 y (toM a y y) := by rw [ex, ey, h]
    exact up_inj this
   ·have ey : up1 b (toM a b y) = y := by unfold toM; rw [if_neg hy, up_dn hy]
    rw [ex, ey]
    by_cases hxa : x = a
    ·subst hxa
     refine .inl ⟨rfl, .inl hxy, fun h => ?_, hy⟩
     rw [h, hs.irr] at hxy; cases hxy
    ·exact .inr ⟨hxa, .inl hxy⟩
 refine ⟨fun i hi => ?_, fun i hi P hP hcl x hx hcx => ?_, fun q hq => ?_⟩
 ·obtain ⟨x, h1, h2⟩ := h.some i hi
  exact ⟨toM a b x, by rw [hl]; exact lT x h1, by rw [cT]; exact h2⟩
 ·have := h.conn i hi (fun x => P (toM a b x)) ?_ ?_ (up1 b x) (by rw [hl] at hx; exact up1_lt hx) hcx
  ·rwa [uT] at this
  ·obtain ⟨x, h1, h2, h3⟩ := hP
   exact ⟨up1 b x, by rw [hl] at h1; exact up1_lt h1, h2, by rw [uT]; exact h3⟩
  ·intro x y cx cy hxy hPx
   rcases bT x y hxy with e | e
   ·rw [<- e]; exact hPx
   ·exact hcl _ _ (by rw [cT]; exact cx) (by rw [cT]; exact cy) e hPx
 ·obtain ⟨x, y, h1, h2, h3⟩ := h.meet q hq
  rcases bT x y h1 with e | e
  ·exfalso
   have := cT x
   rw [e, cT, h2, h3] at this
   exact (hp q hq).2.2 this.symm
  ·exact ⟨_, _, e, by rw [cT]; exact h2, by rw [cT]; exact h3⟩
theorem color_cover {n m : Nat} {c : Nat -> Nat} (h : ∀ i, i < m -> ∃ x, x < n /\ c x = i) : m <= n /\ (m = n -> ∀ x, x < n -> c x < n /\ ∀ y, y < n -> c x = c y -> x = y) := by
 obtain ⟨s, hs⟩ : ∃ s : Nat -> Nat, ∀ i, i < m -> s i < n /\ c (s i) = i := ⟨fun i => if hi : i < m then Classical.choose (h i hi) else 0, fun i hi => by
  dsimp only
  rw [dif_pos hi]; exact Classical.choose_spec (h i hi)⟩
 have nd : ((List.range m).map s).Nodup := by
  refine List.pairwise_map.2 ((List.nodup_range (n := m)).imp_of_mem ?_)
  intro a b ha hb hne he
  refine hne ?_
  rw [<- (hs a (List.mem_range.1 ha)).2, he, (hs b (List.mem_range.1 hb)).2]
 have sub : ∀ x ∈ (List.range m).map s, x ∈ List.range n := fun x hx => by
  obtain ⟨i, hi, rfl⟩ := List.mem_map.1 hx
  exact List.mem_range.2 (hs i (List.mem_range.1 hi)).1
 have hle := nodup_lenG nd sub
 rw [List.length_map, List.length_range, List.length_range] at hle
 refine ⟨hle, fun e x hx => ?_⟩
 have cov : ∀ x, x < n -> ∃ i, i < m /\ s i = x := fun x hx => Classical.byContradiction fun hn => by
  have : (x :: (List.range m).map s).Nodup := List.nodup_cons.2 ⟨fun hm => by
   obtain ⟨i, hi, e⟩ := List.mem_map.1 hm
   exact hn ⟨i, List.mem_range.1 hi, e⟩, nd⟩
  have := nodup_lenG this (fun y hy => by
   rcases List.mem_cons.1 hy with rfl | hy
   ·exact List.mem_range.2 hx
   ·exact sub y hy)
  simp at this
  omega
 obtain ⟨i, hi, rfl⟩ := cov x hx
 refine ⟨by rw [(hs i hi).2]; omega, fun y hy he => ?_⟩
 obtain ⟨j, hj, rfl⟩ := cov y hy
 rw [(hs i hi).2, (hs j hj).2] at he
 rw [he]
def patN (k : Int) : List (Nat × Nat) := (patG k).2.map fun q => (q.1.toNat, q.2.toNat)
theorem patN_one : sizeN 1 = 4 /\ patN 1 = [(0, 1), (0, 2), (0, 3), (1, 2), (1, 3), (2, 3)] := by decide
theorem patN_two : sizeN 2 = 5 /\ patN 2 = [(0, 2), (0, 3), (0, 4), (1, 2), (1, 3), (1, 4)] := by decide
theorem bit_or {r : List Nat} (hs : Sq r) {n i : Nat} (hl : r.length = n) (hi : i < n) (h : ∀ j, j < n -> j ≠ i -> bitL r i j = true) : r.getD i 0 ||| 2 ^ i = 2 ^ n - 1 := by
 apply Nat.eq_of_testBit_eq
 intro j
 rw [Nat.testBit_or, Nat.testBit_two_pow, Nat.testBit_two_pow_sub_one]
 by_cases hj : j < n
 ·by_cases e : i = j
  ·simp [e, hj]
  ·have := h j hj (fun e2 => e e2.symm)
   unfold bitL at this
   rw [this]; simp [hj]
 ·have : (r.getD i 0).testBit j = false := by
   cases hc : (r.getD i 0).testBit j with
   | false => rfl
   | true => exact absurd (hs.bnd i j hc) (by omega)
  rw [this]
  have : i ≠ j := by omega
  simp [this, hj]
theorem isB_of {r : List Nat} {p q : Nat} (h : ∀ j, j < 5 -> j ≠ p -> j ≠ q -> bitL r p j = true /\ bitL r q j = true) : isB r p q = true := by
 have key : ∀ x : Nat, (∀ j, j < 5 -> j ≠ p -> j ≠ q -> x.testBit j = true) -> x &&& offX 31 (2 ^ p ||| 2 ^ q) = offX 31 (2 ^ p ||| 2 ^ q) := fun x hx => by
  apply Nat.eq_of_testBit_eq
  intro j
  rw [Nat.testBit_and]
  cases hc : (offX 31 (2 ^ p ||| 2 ^ q)).testBit j with
  | false => simp
  | true =>
   obtain ⟨h1, h2, h3⟩ := (off2_bit _ _ _ _).1 hc
   have : j < 5 := by
    apply Classical.byContradiction
    intro hn
    have : (31 : Nat).testBit j = false := Nat.testBit_lt_two_pow (Nat.lt_of_lt_of_le (show 31 < 2 ^ 5 by omega) (Nat.pow_le_pow_right (by omega) (by omega)))
    rw [this] at h1; cases h1
   rw [hx j this h2 h3]; rfl
 unfold isB
 rw [key _ fun j h1 h2 h3 => (h j h1 h2 h3).1, key _ fun j h1 h2 h3 => (h j h1 h2 h3).2]
 simp
theorem mod_is {r : List Nat} {k : Int} {c : Nat -> Nat} (hk : k = 1 \/ k = 2) (hs : Sq r) (h : Mod r (sizeN k) (patN k) c) (hn : r.length = sizeN k) : isL r k = true := by
 obtain ⟨_, hcov0⟩ := color_cover (n := r.length) h.some
 have hcov := hcov0 hn.symm
 clear hcov0
 have pair : ∀ x y, x < r.length -> y < r.length -> (c x, c y) ∈ patN k \/ (c y, c x) ∈ patN k -> bitL r x y = true := fun x y hx hy hp => by
  rcases hp with hp | hp
  ·obtain ⟨x', y', h1, h2, h3⟩ := h.meet _ hp
   rw [(hcov x hx).2 x' (hs.lt h1) h2.symm, (hcov y hy).2 y' (hs.bnd _ _ h1) h3.symm]; exact h1
  ·obtain ⟨y', x', h1, h2, h3⟩ := h.meet _ hp
   rw [(hcov x hx).2 x' (hs.bnd _ _ h1) h3.symm, (hcov y hy).2 y' (hs.lt h1) h2.symm]; exact hs.sym _ _ h1
 rcases hk with rfl | rfl
 ·obtain ⟨e1, e2⟩ := patN_one
  rw [e1] at hn
  rw [e2] at pair
  have adj : ∀ x y, x < 4 -> y < 4 -> y ≠ x -> bitL r x y = true := fun x y hx hy hne => by
   refine pair x y (by omega) (by omega) ?_
   have a1 := (hcov x (by omega)).1
   have a2 := (hcov y (by omega)).1
   have a3 : c x ≠ c y := fun e => hne ((hcov x (by omega)).2 y (by omega) e).symm
   rw [hn] at a1 a2
   generalize c x = u at *
   generalize c y = v at *
   have : ∀ u : Fin 4, ∀ v : Fin 4, u.val ≠ v.val -> (u.val, v.val) ∈ [(0, 1), (0, 2), (0, 3), (1, 2), (1, 3), (2, 3)] \/ (v.val, u.val) ∈ [(0, 1), (0, 2), (0, 3), (1, 2), (1, 3), (2, 3)] := by decide
   exact this ⟨u, a1⟩ ⟨v, a2⟩ a3
  have b0 := bit_or hs hn (show 0 < 4 by omega) fun j hj hne => adj 0 j (by omega) hj hne
  have b1 := bit_or hs hn (show 1 < 4 by omega) fun j hj hne => adj 1 j (by omega) hj hne
  have b2 := bit_or hs hn (show 2 < 4 by omega) fun j hj hne => adj 2 j (by omega) hj hne
  have b3 := bit_or hs hn (show 3 < 4 by omega) fun j hj hne => adj 3 j (by omega) hj hne
  unfold isL
  rw [if_pos rfl]
  simp only [Nat.reducePow, Nat.reduceSub] at b0 b1 b2 b3
  rw [b0, b1, b2, b3]; rfl
 ·obtain ⟨e1, e2⟩ := patN_two
  rw [e1] at hn
  rw [e2] at pair
  obtain ⟨p, hp, cp⟩ := h.some 0 (by rw [e1]; omega)
  obtain ⟨q, hq, cq⟩ := h.some 1 (by rw [e1]; omega)
  have hpq : p ≠ q := fun e => by rw [e, cq] at cp; cases cp
  have adj : ∀ j, j < 5 -> j ≠ p -> j ≠ q -> bitL r p j = true /\ bitL r q j = true := fun j hj h1 h2 => by
   have a1 := (hcov j (by omega)).1
   have a2 : c j ≠ 0 := fun e => h1 ((hcov j (by omega)).2 p hp (by rw [e, cp]))
   have a3 : c j ≠ 1 := fun e => h2 ((hcov j (by omega)).2 q hq (by rw [e, cq]))
   rw [hn] at a1
   have : ∀ u : Fin 5, u.val ≠ 0 -> u.val ≠ 1 -> (0, u.val) ∈ [(0, 2), (0, 3), (0, 4), (1, 2), (1, 3), (1, 4)] /\ (1, u.val) ∈ [(0, 2), (0, 3), (0, 4), (1, 2), (1, 3), (1, 4)] := by decide
   obtain ⟨m1, m2⟩ := this ⟨c j, a1⟩ a2 a3
   exact ⟨pair p j hp (by omega) (.inl (by rw [cp]; exact m1)), pair q j hq (by omega) (.inl (by rw [cq]; exact m2))⟩
  unfold isL
  rw [if_neg (by decide), List.any_eq_true]
  by_cases hlt : q < p
  ·refine ⟨p, List.mem_range.2 (by omega), List.any_eq_true.2 ⟨q, List.mem_range.2 hlt, isB_of adj⟩⟩
  ·refine ⟨q, List.mem_range.2 (by omega), List.any_eq_true.2 ⟨p, List.mem_range.2 (by omega), isB_of fun j h1 h2 h3 => ⟨(adj j h1 h3 h2).2, (adj j h1 h3 h2).1⟩⟩⟩
theorem patN_ok {k : Int} (hk : k = 1 \/ k = 2) : ∀ q ∈ patN k, q.1 < sizeN k /\ q.2 < sizeN k /\ q.1 ≠ q.2 := by
 rcases hk with rfl | rfl <;> decide
theorem comes_end {f : Nat} {r : List Nat} {k : Int} (h : r.length <= sizeN k) : comesL f r k = (decide (r.length = sizeN k) && isL r k) := by
 cases f with
 | zero => rfl
 | succ f => exact if_pos h
theorem two_same {n m : Nat} {c : Nat -> Nat} (h : ∀ x, x < n -> c x < m) (hn : m < n) : ∃ x y, x < n /\ y < n /\ x ≠ y /\ c x = c y := Classical.byContradiction fun hc => by
 have nd : ((List.range n).map c).Nodup := by
  refine List.pairwise_map.2 ((List.nodup_range (n := n)).imp_of_mem ?_)
  intro a b ha hb hne he
  exact hc ⟨a, b, List.mem_range.1 ha, List.mem_range.1 hb, hne, he⟩
 have := nodup_lenG (m := List.range m) nd fun x hx => by
  obtain ⟨i, hi, rfl⟩ := List.mem_map.1 hx
  exact List.mem_range.2 (h i (List.mem_range.1 hi))
 simp at this
 omega
theorem mod_comes {k : Int} (hk : k = 1 \/ k = 2) : ∀ (f : Nat) (r : List Nat) (c : Nat -> Nat), r.length = f -> Sq r -> Mod r (sizeN k) (patN k) c -> comesL f r k = true := by
 intro f
 induction f with
 | zero =>
  intro r c hl hs h
  have := (color_cover (n := r.length) h.some).1
  have hz : 0 < sizeN k := by rcases hk with rfl | rfl <;> decide
  omega
 | succ f ih =>
  intro r c hl hs h
  have hle := (color_cover (n := r.length) h.some).1
  by_cases hn : r.length <= sizeN k
  ·rw [comes_end hn, mod_is hk hs h (by omega)]
   simp; omega
  show (if r.length <= sizeN k then _ else _) = true
  rw [if_neg hn, Bool.or_eq_true]
  by_cases hd : ∃ v, v < r.length /\ sizeN k <= c v
  ·obtain ⟨v, hv, hc⟩ := hd
   refine .inr (List.any_eq_true.2 ⟨v, List.mem_range.2 hv, ?_⟩)
   exact ih _ _ (by rw [lessL_length hv]; omega) (hs.less hv) (h.less (patN_ok hk) hv hc)
  ·have hall : ∀ x, x < r.length -> c x < sizeN k := fun x hx => Classical.byContradiction fun hn => hd ⟨x, hx, by omega⟩
   obtain ⟨x, y, hx, hy, hne, he⟩ := two_same hall (by omega)
   have edge : ∃ a b, c a = c b /\ bitL r a b = true := Classical.byContradiction fun hno => by
    have := h.conn (c x) (hall x hx) (· = x) ⟨x, hx, rfl, rfl⟩ (fun u v hu hv huv _ => absurd ⟨u, v, by rw [hu, hv], huv⟩ hno) y hy he.symm
    exact hne this.symm
   obtain ⟨a, b, hab, hb⟩ := edge
   have go : ∀ a b, a < b -> c a = c b -> bitL r a b = true -> (List.range r.length).any (fun a => (List.range r.length).any fun b => decide (a < b) && (bitL r a b && comesL f (mergedL r a b) k)) = true := fun a b hlt hc hb => by
    have h2 := hs.bnd _ _ hb
    refine List.any_eq_true.2 ⟨a, List.mem_range.2 (hs.lt hb), List.any_eq_true.2 ⟨b, List.mem_range.2 h2, ?_⟩⟩
    rw [hb, ih _ _ (by rw [mergedL_length h2]; omega) (hs.merged hlt h2) (h.merged hs (patN_ok hk) hlt h2 hc)]
    simp [hlt]
   have : a ≠ b := fun e => by rw [e, hs.irr] at hb; cases hb
   rcases Nat.lt_or_gt_of_ne this with hlt | hlt
   ·exact .inl (go a b hlt hab hb)
   ·exact .inl (go b a hlt hab.symm (hs.sym _ _ hb))
def rowStep (r : List Nat) (x : Ed) : List Nat := (r.set x.1.toNat (r.getD x.1.toNat 0 ||| 2 ^ x.2.toNat)).set x.2.toNat ((r.set x.1.toNat (r.getD x.1.toNat 0 ||| 2 ^ x.2.toNat)).getD x.2.toNat 0 ||| 2 ^ x.1.toNat)
def rowsL (n : Int) (E : List Ed) : List Nat := E.foldl rowStep (List.replicate n.toNat 0)
theorem rowStep_length (r : List Nat) (x : Ed) : (rowStep r x).length = r.length := by simp [rowStep]
theorem set_bit {r : List Nat} {i : Nat} (hi : i < r.length) (j a b : Nat) : bitL (r.set i (r.getD i 0 ||| 2 ^ j)) a b = (bitL r a b || (decide (a = i) && decide (b = j))) := by
 unfold bitL
 rw [List.getD_eq_getElem?_getD, List.getElem?_set]
 by_cases e : i = a
 ·subst e
  rw [if_pos rfl, if_pos hi]
  show ((r.getD i 0 ||| 2 ^ j).testBit b) = _
  rw [Nat.testBit_or, Nat.testBit_two_pow, decide_eq_true rfl, Bool.true_and, decide_eq_decide.2 (show j = b ↔ b = j from ⟨Eq.symm, Eq.symm⟩)]
 ·rw [if_neg e]
  have : ¬ a = i := fun h => e h.symm
  simp [this]
theorem rowStep_bit {r : List Nat} {x : Ed} {n : Int} (hl : r.length = n.toNat) (hx : okE n x) (a b : Nat) : bitL (rowStep r x) a b = (bitL r a b || (decide (a = x.1.toNat) && decide (b = x.2.toNat)) || (decide (a = x.2.toNat) && decide (b = x.1.toNat))) := by
 obtain ⟨h1, h2, h3⟩ := hx
 unfold rowStep
 rw [set_bit (by rw [List.length_set]; omega), set_bit (by omega)]
theorem rows_bit {n : Int} : ∀ (E : List Ed) (r : List Nat), r.length = n.toNat -> (∀ x ∈ E, okE n x) -> (E.foldl rowStep r).length = n.toNat /\ ∀ a b : Nat, bitL (E.foldl rowStep r) a b = true ↔ bitL r a b = true \/ adjE E a b := by
 intro E
 induction E with
 | nil => intro r hl _; exact ⟨hl, fun a b => by simp [adjE]⟩
 | cons x E ih =>
  intro r hl hE
  have hx := hE x (by simp)
  obtain ⟨i1, i2⟩ := ih (rowStep r x) (by rw [rowStep_length]; exact hl) fun y hy => hE y (by simp [hy])
  refine ⟨i1, fun a b => ?_⟩
  rw [List.foldl_cons, i2, rowStep_bit hl hx]
  obtain ⟨h1, h2, h3⟩ := hx
  obtain ⟨u, v⟩ := x
  dsimp only at h1 h2 h3
  simp only [Bool.or_eq_true, Bool.and_eq_true, decide_eq_true_eq, adjE, List.mem_cons, Prod.mk.injEq]
  constructor
  ·rintro ((( h | ⟨e1, e2⟩) | ⟨e1, e2⟩) | h)
   ·exact .inl h
   ·exact .inr (.inl (.inl ⟨by omega, by omega⟩))
   ·exact .inr (.inr (.inl ⟨by omega, by omega⟩))
   ·rcases h with h | h
    ·exact .inr (.inl (.inr h))
    ·exact .inr (.inr (.inr h))
  ·rintro (h | (⟨e1, e2⟩ | h) | (⟨e1, e2⟩ | h))
   ·exact .inl (.inl (.inl h))
   ·exact .inl (.inl (.inr ⟨by omega, by omega⟩))
   ·exact .inr (.inl h)
   ·exact .inl (.inr ⟨by omega, by omega⟩)
   ·exact .inr (.inr h)
theorem rowsL_length {n : Int} {E : List Ed} (h : ∀ x ∈ E, okE n x) : (rowsL n E).length = n.toNat := (rows_bit E _ (by simp) h).1
theorem rowsL_bit {n : Int} {E : List Ed} (h : ∀ x ∈ E, okE n x) (a b : Nat) : bitL (rowsL n E) a b = true ↔ adjE E a b := by
 unfold rowsL
 rw [(rows_bit E _ (by simp) h).2]
 constructor
 ·rintro (h | h)
  ·exfalso
   unfold bitL at h
   rw [List.getD_eq_getElem?_getD, List.getElem?_replicate] at h
   split at h <;> simp at h
  ·exact h
 ·exact .inr
theorem adjE_range {n : Int} {E : List Ed} (h : ∀ x ∈ E, okE n x) {a b : Int} (ha : adjE E a b) : 0 <= a /\ a < n /\ 0 <= b /\ b < n /\ a ≠ b := by
 rcases ha with ha | ha
 ·obtain ⟨h1, h2, h3⟩ := h _ ha
  dsimp only at h1 h2 h3; omega
 ·obtain ⟨h1, h2, h3⟩ := h _ ha
  dsimp only at h1 h2 h3; omega
theorem rowsL_sq {n : Int} {E : List Ed} (h : ∀ x ∈ E, okE n x) : Sq (rowsL n E) := by
 refine ⟨fun a b hb => ?_, fun a b hb => ?_, fun a => ?_⟩
 ·rw [rowsL_bit h] at hb
  have := adjE_range h hb
  rw [rowsL_length h]; omega
 ·rw [rowsL_bit h] at hb ⊢
  exact hb.symm
 ·cases hc : bitL (rowsL n E) a a with
  | false => rfl
  | true =>
   rw [rowsL_bit h] at hc
   have := adjE_range h hc
   omega
theorem rch_back {E : List Ed} {l : List Int} {P : Int -> Prop} {s : Int} (hs : s ∈ l) (hc : ∀ u v, u ∈ l -> v ∈ l -> adjE E u v -> P u -> P v) : ∀ {v : Int}, Rch E l s v -> v ∈ l /\ (P v -> P s) := by
 intro v hr
 induction hr with
 | base => exact ⟨hs, id⟩
 | @step u v hr ha hv ih => exact ⟨hv, fun hp => ih.2 (hc v u hv ih.1 ha.symm hp)⟩
theorem rch_forw {E : List Ed} {l : List Int} {P : Int -> Prop} {s : Int} (hs : s ∈ l) (hp : P s) (hc : ∀ u v, u ∈ l -> v ∈ l -> adjE E u v -> P u -> P v) : ∀ {v : Int}, Rch E l s v -> v ∈ l /\ P v := by
 intro v hr
 induction hr with
 | base => exact ⟨hs, hp⟩
 | @step u v hr ha hv ih => exact ⟨hv, hc u v ih.1 hv ha ih.2⟩
theorem chk_mod {n : Int} {E : List Ed} {k : Int} {S : List (List Int)} (h : CheckP n E k S) : Mod (rowsL n E) (sizeN k) (patN k) fun x => S.findIdx fun l => l.elem (x : Int) := by
 obtain ⟨hR, hk0, hl, hW, hnd, hT⟩ := h
 have hE : ∀ x ∈ E, okE n x := fun x hx => hR.2.2.2.1 x hx
 have hb := rowsL_bit hE
 have hlen := rowsL_length hE
 have hSl : S.length = sizeN k := by unfold sizeN; omega
 have cx : ∀ (x : Nat) (i : Nat) (hi : i < S.length), (S.findIdx fun l => l.elem (x : Int)) = i ↔ (x : Int) ∈ S[i] := fun x i hi => by
  constructor
  ·intro e
   have := List.findIdx_getElem (xs := S) (p := fun l => l.elem (x : Int)) (w := by omega)
   simp only [e] at this
   simpa using this
  ·intro hm
   have hlt : (S.findIdx fun l => l.elem (x : Int)) < S.length := List.findIdx_lt_length_of_exists ⟨S[i], List.getElem_mem hi, by simpa using hm⟩
   have := List.findIdx_getElem (xs := S) (p := fun l => l.elem (x : Int)) (w := hlt)
   exact disj_at hnd (List.getElem?_eq_getElem hlt) (List.getElem?_eq_getElem hi) (by simpa using this) hm
 refine ⟨fun i hi => ?_, fun i hi P hP hcl x hx hcx => ?_, fun q hq => ?_⟩
 ·have hi : i < S.length := by omega
  have hw := hW _ (List.getElem_mem hi)
  obtain ⟨v, hv⟩ := List.exists_mem_of_ne_nil _ hw.2.1
  have hvr := hw.2.2.2.1 v hv
  refine ⟨v.toNat, by rw [hlen]; omega, (cx _ i hi).2 ?_⟩
  rw [Int.toNat_of_nonneg hvr.1]; exact hv
 ·have hi : i < S.length := by omega
  have hw := hW _ (List.getElem_mem hi)
  have hin : S[i].headD 0 ∈ S[i] := by
   cases hS : S[i] with
   | nil => exact absurd hS hw.2.1
   | cons a l => simp
  have hr0 := hw.2.2.2.1
  have hcl2 : ∀ u v, u ∈ S[i] -> v ∈ S[i] -> adjE E u v -> P u.toNat -> P v.toNat := fun u v hu hv ha hp => by
   have r1 := hr0 u hu
   have r2 := hr0 v hv
   have e1 := Int.toNat_of_nonneg r1.1
   have e2 := Int.toNat_of_nonneg r2.1
   refine hcl u.toNat v.toNat ((cx _ i hi).2 (by rw [e1]; exact hu)) ((cx _ i hi).2 (by rw [e2]; exact hv)) ((hb _ _).2 (by rw [e1, e2]; exact ha)) hp
  obtain ⟨y, hy, hcy, hPy⟩ := hP
  have hyS := (cx y i hi).1 hcy
  have hxS := (cx x i hi).1 hcx
  have hs := (rch_back (P := fun v => P v.toNat) hin hcl2 (hw.2.2.2.2 _ hyS)).2 (by simpa using hPy)
  have := (rch_forw (P := fun v => P v.toNat) hin hs hcl2 (hw.2.2.2.2 _ hxS)).2
  simpa using this
 ·obtain ⟨p, hp, rfl⟩ := List.mem_map.1 hq
  have := hT p hp
  obtain ⟨_, _, _, h4⟩ := patG_ok k
  obtain ⟨q0, q1, q2⟩ := h4 p hp
  have i1 : p.1.toNat < S.length := by omega
  have i2 : p.2.toNat < S.length := by omega
  have s1 : setAt S p.1 = S[p.1.toNat] := by unfold setAt; rw [List.getD_eq_getElem?_getD, List.getElem?_eq_getElem i1]; rfl
  have s2 : setAt S p.2 = S[p.2.toNat] := by unfold setAt; rw [List.getD_eq_getElem?_getD, List.getElem?_eq_getElem i2]; rfl
  rw [s1, s2] at this
  obtain ⟨x, hx, ht⟩ := List.any_eq_true.1 this
  have e1 := Int.toNat_of_nonneg (hE x hx).1
  have e2 := Int.toNat_of_nonneg (show 0 <= x.2 by have := hE x hx; obtain ⟨a1, a2, a3⟩ := this; omega)
  simp only [Bool.or_eq_true, Bool.and_eq_true] at ht
  rcases ht with ⟨t1, t2⟩ | ⟨t1, t2⟩
  ·refine ⟨x.1.toNat, x.2.toNat, (hb _ _).2 (by rw [e1, e2]; exact .inl hx), (cx _ _ i1).2 (by rw [e1]; simpa using t1), (cx _ _ i2).2 (by rw [e2]; simpa using t2)⟩
  ·refine ⟨x.2.toNat, x.1.toNat, (hb _ _).2 (by rw [e1, e2]; exact .inr hx), (cx _ _ i1).2 (by rw [e2]; simpa using t2), (cx _ _ i2).2 (by rw [e1]; simpa using t1)⟩
end Go.Sh
namespace Go.Sh
theorem Core.K4 {N : List (List Int)} {G : List Bool} (h : Core N G) : K4 N ↔ leftF G ≠ [] := by
 constructor
 ·rintro ⟨c, hc⟩ e
  obtain ⟨x, y, hx, hy, k, _⟩ := hc.meet 0 1 (by omega) (by omega)
  rw [List.mem_range] at hx
  have : (x : Int) ∈ leftF G := mem_leftF.2 ⟨by omega, by rw [h.wf.len]; omega, by
   cases hg : goneAt G (x : Int) with
   | false => rfl
   | true => unfold adjN at k; rw [h.wf.gone x (by omega) hg] at k; simp at k⟩
  rw [e] at this; simp at this
 ·intro hne
  let vs := (List.range N.length).filter fun (x : Nat) => !goneAt G (x : Int)
  have hvs : ∀ x, x ∈ vs ↔ x < N.length /\ goneAt G (x : Int) = false := fun x => by
   rw [List.mem_filter, List.mem_range]; simp
  have h0 : vs ≠ [] := by
   obtain ⟨v, hv⟩ := List.exists_mem_of_ne_nil _ hne
   obtain ⟨a0, a1, a2⟩ := mem_leftF.1 hv
   intro e
   have : v.toNat ∈ vs := (hvs _).2 ⟨by rw [h.wf.len] at a1; omega, by rw [Int.toNat_of_nonneg a0]; exact a2⟩
   rw [e] at this; simp at this
  have hd : ∀ x, x ∈ vs -> D3 vs (adjN N) x := fun x hx => by
   obtain ⟨x1, x2⟩ := (hvs x).1 hx
   have h3 := h.three (v := (x : Int)) (by omega) (by omega) x2
   have hs := (h.wf.rows (x : Int)).1
   have hin : ∀ y, y ∈ rowAt N x -> y.toNat ∈ vs /\ adjN N x y.toNat := fun y hy => by
    obtain ⟨y0, y1, y2⟩ := near_there h.wf (by omega) hy
    exact ⟨(hvs _).2 ⟨by omega, by rw [Int.toNat_of_nonneg y0]; exact y2⟩, by unfold adjN; rw [Int.toNat_of_nonneg y0]; exact hy⟩
   have hr0 := fun y hy => (near_there h.wf (show (0 : Int) <= x by omega) (x := y) hy).1
   match hrow : rowAt N x, h3 with
   | a :: b :: c :: l, _ =>
    rw [hrow] at hs hin hr0
    simp only [List.pairwise_cons] at hs
    have ab := hs.1 b (by simp)
    have ac := hs.1 c (by simp)
    have bc := hs.2.1 c (by simp)
    have a0 := hr0 a (by simp)
    obtain ⟨m1, k1⟩ := hin a (by simp)
    obtain ⟨m2, k2⟩ := hin b (by simp)
    obtain ⟨m3, k3⟩ := hin c (by simp)
    exact ⟨_, _, _, m1, m2, m3, by omega, by omega, by omega, k1, k2, k3⟩
   | [], h3 => simp at h3
   | [_], h3 => simp at h3
   | [_, _], h3 => simp at h3
  obtain ⟨c, hc⟩ := dirac (adjN_sm h.wf) (List.nodup_range.sublist List.filter_sublist) hd h0
  exact ⟨_, hc.induced fun x hx => List.mem_range.2 ((hvs x).1 hx).1⟩
theorem narrow_K4 {n : Int} {E : List Ed} (hR : RightP n E) : narrowB n E = true ↔ ¬ K4 (nbrs n.toNat E) := by
 obtain ⟨hC, _, _⟩ := core_run hR
 have h1 : K4 (runR n E).2.1 ↔ K4 (nbrs n.toNat E) := K4_run (begin_wf hR)
 have hrun : runO n E = ((runR n E).1, leftF (runR n E).2.2, edgesF (runR n E).2.1 (runR n E).2.2) := if_pos hR
 unfold narrowB
 rw [decide_eq_true hR, Bool.true_and, decide_eq_true_eq, hrun, <- h1, hC.K4]
 simp
theorem nbrs_adj {n : Int} {E : List Ed} (hR : RightP n E) (x y : Nat) : adjN (nbrs n.toNat E) x y ↔ adjE E x y := by
 unfold adjN
 by_cases hx : (x : Int) < n.toNat
 ·rw [nbrs_row (by omega) hx, mem_nearL]
 ·rw [rowAt_out (by rw [nbrs_length]; omega)]
  constructor
  ·intro h; simp at h
  ·intro h
   have := adjE_range (fun p hp => hR.2.2.2.1 p hp) h
   omega
theorem mod_mdl {r : List Nat} (hs : Sq r) {c : Nat -> Nat} : Mod r 4 (patN 1) c ↔ MdL (List.range r.length) (fun x y => bitL r x y = true) c := by
 have rg : ∀ {x}, x ∈ List.range r.length ↔ x < r.length := List.mem_range
 constructor
 ·intro h
  refine ⟨fun i hi => ?_, fun i hi P ⟨x, hx, e, hP⟩ hcl y hy ey => ?_, fun i j hij hj => ?_⟩
  ·obtain ⟨x, hx, e⟩ := h.some i hi; exact ⟨x, rg.2 hx, e⟩
  ·exact h.conn i hi P ⟨x, rg.1 hx, e, hP⟩ (fun a b ea eb k => hcl a b (rg.2 (hs.lt k)) (rg.2 (hs.bnd _ _ k)) ea eb k) y (rg.1 hy) ey
  ·have hq : (i, j) ∈ patN 1 := by
    rw [patN_one.2]
    have : (i = 0 /\ j = 1) \/ (i = 0 /\ j = 2) \/ (i = 0 /\ j = 3) \/ (i = 1 /\ j = 2) \/ (i = 1 /\ j = 3) \/ (i = 2 /\ j = 3) := by omega
    rcases this with ⟨rfl, rfl⟩ | ⟨rfl, rfl⟩ | ⟨rfl, rfl⟩ | ⟨rfl, rfl⟩ | ⟨rfl, rfl⟩ | ⟨rfl, rfl⟩ <;> simp
   obtain ⟨x, y, k, ex, ey⟩ := h.meet _ hq
   exact ⟨x, y, rg.2 (hs.lt k), rg.2 (hs.bnd _ _ k), k, ex, ey⟩
 ·intro h
  refine ⟨fun i hi => ?_, fun i hi P ⟨x, hx, e, hP⟩ hcl y hy ey => ?_, fun q hq => ?_⟩
  ·obtain ⟨x, hx, e⟩ := h.some i hi; exact ⟨x, rg.1 hx, e⟩
  ·exact h.conn i hi P ⟨x, rg.2 hx, e, hP⟩ (fun a b _ _ ea eb k => hcl a b ea eb k) y (rg.2 hy) ey
  ·have hq2 : q.1 < q.2 /\ q.2 < 4 := by
    rw [patN_one.2] at hq
    simp at hq
    rcases hq with rfl | rfl | rfl | rfl | rfl | rfl <;> decide
   obtain ⟨x, y, _, _, k, ex, ey⟩ := h.meet q.1 q.2 hq2.1 hq2.2
   exact ⟨x, y, k, ex, ey⟩
theorem rows_K4 {n : Int} {E : List Ed} (hR : RightP n E) {c : Nat -> Nat} : MdL (List.range (rowsL n E).length) (fun x y => bitL (rowsL n E) x y = true) c ↔ MdL (List.range (nbrs n.toNat E).length) (adjN (nbrs n.toNat E)) c := by
 have hE : ∀ x ∈ E, okE n x := fun x hx => hR.2.2.2.1 x hx
 rw [rowsL_length hE, nbrs_length]
 have e : ∀ x y : Nat, bitL (rowsL n E) x y = true ↔ adjN (nbrs n.toNat E) x y := fun x y => by rw [rowsL_bit hE, nbrs_adj hR]
 exact ⟨fun h => h.mono fun x y _ _ k => (e x y).1 k, fun h => h.mono fun x y _ _ k => (e x y).2 k⟩
theorem chk_K4 {n : Int} {E : List Ed} {S : List (List Int)} (h : CheckP n E 1 S) : K4 (nbrs n.toNat E) := by
 have h1 := chk_mod h
 have hE : ∀ x ∈ E, okE n x := fun x hx => h.1.2.2.2.1 x hx
 rw [patN_one.1] at h1
 exact ⟨_, (rows_K4 h.1).1 ((mod_mdl (rowsL_sq hE)).1 h1)⟩
theorem MdL.reindex {m v : Nat} (hv : v < m) {A A' : Nat -> Nat -> Prop} {c : Nat -> Nat} (h : MdL (List.range (m - 1)) A' c) (hA : ∀ i j, i < m - 1 -> j < m - 1 -> A' i j -> A (up1 v i) (up1 v j)) : MdL ((List.range m).erase v) A fun x => c (dn1 v x) := by
 have rg : ∀ x, x ∈ (List.range m).erase v ↔ x < m /\ x ≠ v := fun x => by rw [erase_mem List.nodup_range, List.mem_range]
 have du : ∀ i, dn1 v (up1 v i) = i := fun i => up_inj (v := v) (up_dn (up1_ne v i))
 have upr : ∀ i, i < m - 1 -> up1 v i ∈ (List.range m).erase v := fun i hi => (rg _).2 ⟨up1_lt hi, up1_ne v i⟩
 refine ⟨fun i hi => ?_, fun i hi P ⟨x, hx, e, hP⟩ hcl y hy ey => ?_, fun i j hij hj => ?_⟩
 ·obtain ⟨x, hx, e⟩ := h.some i hi
  exact ⟨up1 v x, upr x (List.mem_range.1 hx), by rw [du]; exact e⟩
 ·obtain ⟨x1, x2⟩ := (rg x).1 hx
  obtain ⟨y1, y2⟩ := (rg y).1 hy
  have := h.conn i hi (fun k => P (up1 v k)) ⟨dn1 v x, List.mem_range.2 (dn_lt x2 hv x1), e, by rw [up_dn x2]; exact hP⟩ (fun a b ha hb ea eb k hp => hcl _ _ (upr a (List.mem_range.1 ha)) (upr b (List.mem_range.1 hb)) (by rw [du]; exact ea) (by rw [du]; exact eb) (hA a b (List.mem_range.1 ha) (List.mem_range.1 hb) k) hp) (dn1 v y) (List.mem_range.2 (dn_lt y2 hv y1)) ey
  rw [up_dn y2] at this
  exact this
 ·obtain ⟨x, y, hx, hy, k, ex, ey⟩ := h.meet i j hij hj
  exact ⟨up1 v x, up1 v y, upr x (List.mem_range.1 hx), upr y (List.mem_range.1 hy), hA x y (List.mem_range.1 hx) (List.mem_range.1 hy) k, by rw [du]; exact ex, by rw [du]; exact ey⟩
theorem is_mdl {r : List Nat} (hl : r.length = 4) (hi : isL r 1 = true) : MdL (List.range r.length) (fun x y => bitL r x y = true) id := by
 have hb : ∀ i j, i < j -> j < 4 -> bitL r i j = true := by
  unfold isL at hi
  rw [if_pos rfl] at hi
  simp only [Bool.and_eq_true, beq_iff_eq] at hi
  obtain ⟨⟨⟨h0, h1⟩, h2⟩, h3⟩ := hi
  have key : ∀ (x p j : Nat), x ||| p = 15 -> (15).testBit j = true -> p.testBit j = false -> x.testBit j = true := fun x p j e k1 k2 => by
   rw [<- e, Nat.testBit_or, k2, Bool.or_false] at k1; exact k1
  intro i j hij hj
  have : (i = 0 /\ j = 1) \/ (i = 0 /\ j = 2) \/ (i = 0 /\ j = 3) \/ (i = 1 /\ j = 2) \/ (i = 1 /\ j = 3) \/ (i = 2 /\ j = 3) := by omega
  unfold bitL
  rcases this with ⟨rfl, rfl⟩ | ⟨rfl, rfl⟩ | ⟨rfl, rfl⟩ | ⟨rfl, rfl⟩ | ⟨rfl, rfl⟩ | ⟨rfl, rfl⟩
  ·exact key _ _ _ h0 (by decide) (by decide)
  ·exact key _ _ _ h0 (by decide) (by decide)
  ·exact key _ _ _ h0 (by decide) (by decide)
  ·exact key _ _ _ h1 (by decide) (by decide)
  ·exact key _ _ _ h1 (by decide) (by decide)
  ·exact key _ _ _ h2 (by decide) (by decide)
 have rg : ∀ {x}, x ∈ List.range r.length ↔ x < 4 := by intro x; rw [List.mem_range, hl]
 refine ⟨fun i hi => ⟨i, rg.2 hi, rfl⟩, fun i hi P ⟨x, hx, e, hP⟩ _ y hy ey => ?_, fun i j hij hj => ⟨i, j, rg.2 (by omega), rg.2 hj, hb i j hij hj, rfl, rfl⟩⟩
 have : x = y := e.trans ey.symm
 rw [<- this]; exact hP
theorem sq_sm {r : List Nat} (h : Sq r) : Sm (fun x y => bitL r x y = true) := ⟨fun x y k => h.sym _ _ k, fun x k => by rw [h.irr] at k; cases k⟩
theorem comes_mdl : ∀ (f : Nat) (r : List Nat), r.length = f -> Sq r -> comesL f r 1 = true -> ∃ c, MdL (List.range r.length) (fun x y => bitL r x y = true) c := by
 intro f
 induction f with
 | zero =>
  intro r hl hs h
  unfold comesL at h
  rw [Bool.and_eq_true, decide_eq_true_eq, patN_one.1] at h
  omega
 | succ f ih =>
  intro r hl hs h
  unfold comesL at h
  rw [patN_one.1] at h
  by_cases h4 : r.length <= 4
  ·rw [if_pos h4, Bool.and_eq_true, decide_eq_true_eq] at h
   exact ⟨_, is_mdl h.1 h.2⟩
  ·rw [if_neg h4, Bool.or_eq_true] at h
   rcases h with h | h
   ·obtain ⟨a, ha, h⟩ := List.any_eq_true.1 h
    obtain ⟨b, hb, h⟩ := List.any_eq_true.1 h
    rw [Bool.and_eq_true, Bool.and_eq_true, decide_eq_true_eq] at h
    obtain ⟨hab, hbit, hc⟩ := h
    rw [List.mem_range] at ha hb
    have hml := mergedL_length (r := r) (a := a) hb
    obtain ⟨c, hc⟩ := ih (mergedL r a b) (by omega) (hs.merged hab hb) hc
    rw [hml] at hc
    have h1 : MdL ((List.range r.length).erase b) (mAdj r a b) fun x => c (dn1 b x) := hc.reindex hb fun i j hi hj k => (bit_merged (by omega)).1 k
    have h2 : MdL ((List.range r.length).erase b) (ctr (fun x y => bitL r x y = true) b a) fun x => c (dn1 b x) := h1.mono fun x y _ _ k => by
     rcases k with ⟨e, k | k, n1, n2⟩ | ⟨n, k | ⟨k, e⟩⟩
     ·exact .inl (by rw [e]; exact k)
     ·exact .inr (.inl ⟨e, k, n1⟩)
     ·exact .inl k
     ·exact .inr (.inr ⟨e, hs.sym _ _ k, n⟩)
    exact ⟨_, h2.lift (sq_sm hs) (List.mem_range.2 hb) (List.mem_range.2 ha) (hs.sym _ _ hbit) (erase_mem List.nodup_range b)⟩
   ·obtain ⟨v, hv, hc⟩ := List.any_eq_true.1 h
    rw [List.mem_range] at hv
    have hll := lessL_length (r := r) hv
    obtain ⟨c, hc⟩ := ih (lessL r v) (by omega) (hs.less hv) hc
    rw [hll] at hc
    have h1 : MdL ((List.range r.length).erase v) (fun x y => bitL r x y = true) fun x => c (dn1 v x) := hc.reindex hv fun i j hi hj k => by rw [<- bit_less]; exact k
    exact ⟨_, h1.induced fun x hx => ((erase_mem List.nodup_range v x).1 hx).1⟩
theorem has_K4 {n : Int} {E : List Ed} (hR : RightP n E) : hasL (rowsL n E) 1 = true ↔ K4 (nbrs n.toNat E) := by
 have hE : ∀ x ∈ E, okE n x := fun x hx => hR.2.2.2.1 x hx
 have hs := rowsL_sq hE
 constructor
 ·intro h
  obtain ⟨c, hc⟩ := comes_mdl _ _ rfl hs h
  exact ⟨c, (rows_K4 hR).1 hc⟩
 ·rintro ⟨c, hc⟩
  have := (mod_mdl hs).2 ((rows_K4 hR).2 hc)
  exact mod_comes (.inl rfl) _ _ _ rfl hs (by rw [patN_one.1]; exact this)
end Go.Sh
namespace Go.Sh
open Go.Proofs
theorem K4_sub {n : Int} {E E' : List Ed} (hR : RightP n E) (hR' : RightP n E') (hs : ∀ a b, adjE E' a b -> adjE E a b) (h : K4 (nbrs n.toNat E')) : K4 (nbrs n.toNat E) := by
 obtain ⟨c, hc⟩ := h
 rw [nbrs_length] at hc
 exact ⟨c, by rw [nbrs_length]; exact hc.mono fun x y _ _ k => (nbrs_adj hR x y).2 (hs _ _ ((nbrs_adj hR' x y).1 k))⟩
theorem narrow_wo {n : Int} {E E' : List Ed} (hR : RightP n E) (hR' : RightP n E') (hs : ∀ p ∈ E', p ∈ E) (h : narrowB n E = true) : narrowB n E' = true :=
 (narrow_K4 hR').2 fun k => (narrow_K4 hR).1 h (K4_sub hR hR' (fun a b => Or.imp (hs _) (hs _)) k)
end Go.Sh
namespace Go.Sh
noncomputable def restK (n : Int) : List Ed -> List Ed -> List Ed
 | K, [] => K
 | K, x :: r => if narrowB n (K ++ r) = false then restK n K r else restK n (K ++ [x]) r
theorem restK_go {n : Int} {K r : List Ed} {x : Ed} (h : narrowB n (K ++ r) = false) : restK n K (x :: r) = restK n K r := if_pos h
theorem restK_keep {n : Int} {K r : List Ed} {x : Ed} (h : narrowB n (K ++ r) = true) : restK n K (x :: r) = restK n (K ++ [x]) r := if_neg (by rw [h]; simp)
open Classical in
noncomputable def restF (n : Int) (E : List Ed) : Int × List Ed := if RightP n E /\ narrowB n E = false then (n, restK n [] E) else (0, [])
theorem right_sub {n : Int} {E F : List Ed} (hR : RightP n E) (h : F.Sublist E) : RightP n F :=
 ⟨hR.1, hR.2.1, Nat.le_trans h.length_le hR.2.2.1, fun p hp => hR.2.2.2.1 p (h.subset hp), hR.2.2.2.2.sublist h⟩
theorem edge_nodup {n : Int} {E : List Ed} (hR : RightP n E) : E.Nodup := List.nodup_iff_pairwise_ne.2 (hR.2.2.2.2.imp fun h => ltE_ne h)
structure RestI (n : Int) (E K r : List Ed) : Prop where
 sub : (K ++ r).Sublist E
 wide : narrowB n (K ++ r) = false
 least : ∀ x ∈ K, narrowB n ((K ++ r).erase x) = true
theorem RestI.go {n : Int} {E K r : List Ed} {x : Ed} (hR : RightP n E) (h : RestI n E K (x :: r)) (hn : narrowB n (K ++ r) = false) : RestI n E K r := by
 have hs : (K ++ r).Sublist (K ++ x :: r) := (List.Sublist.refl K).append (List.sublist_cons_self x r)
 refine ⟨hs.trans h.sub, hn, fun y hy => ?_⟩
 have h1 := right_sub hR h.sub
 exact narrow_wo (right_sub h1 List.erase_sublist) (right_sub h1 ((List.erase_sublist).trans hs)) (fun p hp => (hs.erase y).subset hp) (h.least y hy)
theorem RestI.keep {n : Int} {E K r : List Ed} {x : Ed} (hR : RightP n E) (h : RestI n E K (x :: r)) (hn : narrowB n (K ++ r) = true) : RestI n E (K ++ [x]) r := by
 have e : K ++ [x] ++ r = K ++ x :: r := by simp
 refine ⟨by rw [e]; exact h.sub, by rw [e]; exact h.wide, fun y hy => ?_⟩
 rw [e]
 rcases List.mem_append.1 hy with hy | hy
 ·exact h.least y hy
 ·have : y = x := by simpa using hy
  subst this
  have hnd := edge_nodup (right_sub hR h.sub)
  have hyK : y ∉ K := fun hk => by
   rw [List.nodup_append] at hnd
   exact hnd.2.2 y hk y (by simp) rfl
  rw [List.erase_append_right _ hyK, List.erase_cons_head]
  exact hn
theorem restK_is {n : Int} {E : List Ed} (hR : RightP n E) : ∀ {r K : List Ed}, RestI n E K r -> RestI n E (restK n K r) [] := by
 intro r
 induction r with
 | nil => intro K h; exact h
 | cons x r ih =>
  intro K h
  cases hn : narrowB n (K ++ r) with
  | false => rw [restK_go hn]; exact ih (h.go hR hn)
  | true => rw [restK_keep hn]; exact ih (h.keep hR hn)
structure LeastP (n : Int) (E F : List Ed) : Prop where
 sub : F.Sublist E
 wide : narrowB n F = false
 least : ∀ x ∈ F, narrowB n (F.erase x) = true
theorem rest_least {n : Int} {E : List Ed} (hR : RightP n E) (h : narrowB n E = false) : LeastP n E (restK n [] E) := by
 have := restK_is hR (K := []) (r := E) ⟨by simp, h, fun x hx => by simp at hx⟩
 have k1 := this.sub
 have k2 := this.wide
 have k3 := this.least
 rw [List.append_nil] at k1 k2
 simp only [List.append_nil] at k3
 exact ⟨k1, k2, k3⟩
theorem restK_len {n : Int} : ∀ {r K : List Ed}, (restK n K r).length <= K.length + r.length := by
 intro r
 induction r with
 | nil => intro K; simp [restK]
 | cons x r ih =>
  intro K
  cases hn : narrowB n (K ++ r) with
  | false => rw [restK_go hn]; have := ih (K := K); simp; omega
  | true => rw [restK_keep hn]; have := ih (K := K ++ [x]); simp at this ⊢; omega
theorem restF_yes {n : Int} {E : List Ed} (hR : RightP n E) (h : narrowB n E = false) : restF n E = (n, restK n [] E) := if_pos ⟨hR, h⟩
theorem restF_narrow {n : Int} {E : List Ed} (h : narrowB n E = true) : restF n E = (0, []) := if_neg fun k => by rw [h] at k; simp at k
theorem restF_wrong {n : Int} {E : List Ed} (h : ¬ RightP n E) : restF n E = (0, []) := if_neg fun k => h k.1
theorem restF_len {n : Int} {E : List Ed} : (restF n E).2.length <= E.length := by
 unfold restF
 split
 ·have := restK_len (n := n) (K := []) (r := E); simpa using this
 ·simp
end Go.Sh
namespace Go.Sh
open Go.Proofs
section
variable {P : Program} {O0 : Nat -> Prop} {w0 : Base} {nt : Nat} {g : G} {a : Act} {w : World} {sl : Sl} {en : En} {nx : Nat}
theorem scal_core {f : Nat} {us : Array Value} {x : Sc} {K : SV -> Sl -> En -> Nat -> Prop} (R : Rel (fun n => n < nx) O0 w0 nt (toS sl en) g a w)
  (hc : Calls P f us w fun e w' => e = .returned x.val /\ Frm (fun _ => False) w w') (hK : K (.s x) sl en nx) :
  Calls P f us w fun e w' => ∃ v u sl' en' nx' g', e = .returned u /\ K v sl' en' nx' /\ VR3 (toS sl' en') g' v u /\ (∀ n ∈ names3 v, n < nx') /\ Rel (fun n => n < nx') O0 w0 nt (toS sl' en') g' a w' := by
 refine hc.mono ?_
 rintro e w' ⟨rfl, hfr⟩
 have hd : Did (fun n => n < nx) (toS sl en) g w (fun _ => False) (.s x) [] x.val w' g := by
  refine did_of R (fun _ => False) (fun _ _ _ => rfl) (fun k x hx => .inl (R.me k x hx).1) (fun k _ _ => ⟨rfl, rfl, fun _ => rfl, fun _ => rfl⟩) (fun b k r hb _ _ => ⟨rfl, hfr.block b hb (fun h => h)⟩) (fun b hb ho => ⟨ho, hfr.block b hb (fun h => h)⟩)
   ⟨hfr.os, hfr.tape, hfr.output, hfr.size⟩ (fun b k hb => Nat.lt_of_lt_of_le (R.bound b k hb) hfr.size) (fun b k r hb => .inl (R.label b k r hb)) (fun _ _ h => h.elim) (fun k e he h => (h (R.me k e he).1).elim) (fun _ => rfl)
 have R2 := Did.rel R hd (d := none) (u' := x.val) (fun t h => by simp at h) (fun _ => rfl) (fun k hk => by simp [names3, names2, names1, namesW] at hk)
 refine ⟨.s x, _, sl, en, nx, g, rfl, hK, rfl, fun k hk => by simp [names3, names2, names1] at hk, ?_⟩
 exact R2.wider fun k hk => by rcases hk with hk | hk <;> first | exact hk | exact hk.elim
def cellsIs (en : En) (n : Nat) (vs : List SV) : Prop := lk en n = some (some (.blk vs)) \/ lk en n = some (some (.rblk vs))
def rowIs (en : En) (v : SV) (K : List Ed) : Prop := (v = .nils /\ K = []) \/ ∃ k own, v = .sl k none none /\ lk en k = some (some (.flat own 2 (edges K)))
def sparedCR (f0 : Nat) : CallR := fun f vs Kc sl en nx => f = f0 /\ ∃ (i : Nat) (n1 n2 : Nat) (n : Int) (K E : List Ed) (v1 v2 : SV), vs = [.s (.i .i64 (i : Int)), .ptr n1 0, .ptr n2 0] /\ cellsIs en n1 [v1] /\ cellsIs en n2 [.s (.i .i64 n), v2] /\ rowIs en v1 K /\ rowIs en v2 E /\ i < E.length /\ E.length <= 100000 /\ K.length <= 100000 /\ Kc (.s (.b (sparedB n K E i))) sl en nx
theorem cells_rel {n : Nat} {vs : List SV} {b : Nat} (R : Rel (fun n => n < nx) O0 w0 nt (toS sl en) g a w) (h : cellsIs en n vs) (hb : g.base n = some ⟨b, 0, none⟩) : ∃ arr T, w.heap[b]? = some (.cells arr T (0, 0)) /\ All2 (VR1 (toS sl en) g) vs arr.toList := by
 have fe : ∀ {e}, lk en n = some (some e) -> (toS sl en).fe n = some e := fun h => by simp [toS, h]
 have key : ∀ {b' : Nat} {arr : Array Value} {T : TypeId}, g.base n = some ⟨b', 0, none⟩ -> w.heap[b']? = some (.cells arr T (0, 0)) -> All2 (VR1 (toS sl en) g) vs arr.toList -> ∃ arr T, w.heap[b]? = some (.cells arr T (0, 0)) /\ All2 (VR1 (toS sl en) g) vs arr.toList := by
  intro b' arr T hA hh hl
  rw [hb] at hA
  injection hA with hA
  injection hA with hA
  subst hA
  exact ⟨arr, T, hh, hl⟩
 rcases h with h | h
 ·obtain ⟨b', arr, T, hA, _, hh, hl⟩ := R.ents _ _ (fe h); exact key hA hh hl
 ·obtain ⟨b', arr, T, hA, _, hh, hl⟩ := R.ents _ _ (fe h); exact key hA hh hl
theorem row_rel {v : SV} {K : List Ed} {u : Value} (R : Rel (fun n => n < nx) O0 w0 nt (toS sl en) g a w) (h : rowIs en v K) (hu : VR1 (toS sl en) g v u) : ∃ A c, u = .slice A K.length c /\ FlatOk w noLab none A c 2 (edges K) := by
 rcases h with ⟨rfl, rfl⟩ | ⟨k, own, rfl, hk⟩
 ·exact ⟨none, 0, hu, FlatOk.nil (by omega)⟩
 ·have fe : (toS sl en).fe k = some (.flat own 2 (edges K)) := by simp [toS, hk]
  obtain ⟨A, len, cap, rfl, hs⟩ := hu
  have hf : FlatOk w g.own _ (g.base k) (g.cap k) 2 (edges K) := R.ents k _ fe
  obtain ⟨rfl, rfl, rfl⟩ := hs (edges K).length 2 (by simp [lenSz, fe])
  rw [edges_length]
  exact ⟨_, _, rfl, hf.ro⟩
end
theorem spared_ok : CrOk Tryz.prog (sparedCR 41) := by
 intro f' vs Kc sl en nx h O0 w0 nt g a w us R hus hn
 obtain ⟨rfl, i, n1, n2, n, K, E, v1, v2, rfl, hc1, hc2, hr1, hr2, hi, hE, hK, hKc⟩ := h
 refine ⟨⟨_, Tryz.func41, by decide, by simp [Tryz.f41]⟩, ?_⟩
 obtain ⟨u1, u2, rfl, k1, k2⟩ : ∃ u1 u2, us = [.int .i64 (i : Int), u1, u2] /\ VR1 (toS sl en) g (.ptr n1 0) u1 /\ VR1 (toS sl en) g (.ptr n2 0) u2 := by
  match us, hus with
  | [v1, v2, v3], hus => exact ⟨v2, v3, by rw [show v1 = .int .i64 (i : Int) from hus.2 0 _ _ rfl rfl], hus.2 1 _ _ rfl rfl, hus.2 2 _ _ rfl rfl⟩
  | [], hus => exact absurd hus.1 (by simp)
  | [_], hus => exact absurd hus.1 (by simp)
  | [_, _], hus => exact absurd hus.1 (by simp)
  | _ :: _ :: _ :: _ :: _, hus => exact absurd hus.1 (by simp)
 obtain ⟨b1, hb1, rfl⟩ := k1
 obtain ⟨b2, hb2, rfl⟩ := k2
 obtain ⟨arr1, T1, e1, q1⟩ := cells_rel R hc1 hb1
 obtain ⟨arr2, T2, e2, q2⟩ := cells_rel R hc2 hb2
 obtain ⟨x1, hx1⟩ : ∃ q, arr1.toList = [q] := List.length_eq_one_iff.1 (by rw [<- q1.1]; rfl)
 obtain ⟨x2, x3, hx2⟩ : ∃ q r, arr2.toList = [q, r] := by
  have := q2.1
  match h : arr2.toList, this with
  | [q, r], _ => exact ⟨q, r, rfl⟩
 rw [hx1] at q1
 rw [hx2] at q2
 obtain ⟨A, ck, rfl, hA⟩ := row_rel R hr1 (q1.2 0 _ _ rfl rfl)
 obtain ⟨B, c, rfl, hB⟩ := row_rel R hr2 (q2.2 1 _ _ rfl rfl)
 have hx : x2 = .int .i64 n := q2.2 0 _ _ rfl rfl
 subst hx
 have hw : ∀ {b : Nat} {arr : Array Value} {T : TypeId} (k : Nat), w.heap[b]? = some (.cells arr T (0, 0)) -> w.cell? ⟨b, k, none⟩ = arr.toList[k]? := fun k h => by simp [World.cell?, h]
 have hcall := Tryz.rest1_call w n i K E b1 b2 A B ck c (by rw [hw 0 e1, hx1]; rfl) (by rw [hw 0 e2, hx2]; rfl) (by rw [hw 1 e2, hx2]; rfl) hA hB hi hE hK
 refine scal_core (x := .b (sparedB n K E i)) R (hcall.mono ?_) hKc
 rintro e w' ⟨he, hb⟩
 exact ⟨he, hb.os, .of hb.tape, hb.output, hb.size, fun b hlt _ => hb.block b hlt⟩
noncomputable def RestC : Con := conP 2 (fun _ : Int × List Ed => True) (fun a => [grV a.1 a.2]) (fun a => grO (restF a.1 a.2).1 (restF a.1 a.2).2)
theorem RestC_at (n : Int) (E : List Ed) : RestC.F [grV n E] = some (grO (restF n E).1 (restF n E).2, []) :=
 conP_at (a := (n, E)) (fun x y _ _ h => by
  obtain ⟨n, E⟩ := x
  obtain ⟨n', E'⟩ := y
  simp at h
  obtain ⟨rfl, rfl⟩ := grV_inj h
  rfl) trivial
noncomputable def XRest : Cx := { Γ := [(25, RightC), (40, NarrowC)], T := T, nt := 37, ext := [41], base := sparedCR 41 }
theorem XRest_sound : Sound Tryz.prog T XRest.Γ := sound_cons RightG_ok (sound_cons Narrow_ok sound_nil)
theorem XRest_ok : CrOk Tryz.prog (callAt 1 XRest) := callAt_ok hmix hT XRest_sound inl_nil spared_ok 1
set_option maxHeartbeats 1000000 in
theorem Rest_ok : SoundC Tryz.prog T 16 RestC := by
 refine sound_con (X := XRest) (cr := callAt 1 XRest) XRest_ok hmix hT XRest_sound Tryz.func16 (by rfl) (by rfl) (by rfl) (by rfl) 3 ?_
 rintro ⟨n, E⟩ -
 dsimp only
 refine two_le ?_
 refine Call.by _ _ (RightC_at n E) ?_
 refine Pick.by (fun h1 => ?_) (fun h1 => ?_)
 ·have h1 : ¬ RightP n E := by have h1 : (!decide (RightP n E)) = true := h1; simpa using h1
  rw [restF_wrong h1]
  refine ⟨rfl, ?_⟩
  (repeat' first | exact rfl | exact trivial | apply And.intro)
 have h1 : RightP n E := by have h1 : (!decide (RightP n E)) = false := h1; simpa using h1
 refine Call.by _ _ (NarrowC_at n E) ?_
 refine Pick.by (fun h2 => ?_) (fun h2 => ?_)
 ·rw [restF_narrow h2]
  refine ⟨rfl, ?_⟩
  (repeat' first | exact rfl | exact trivial | apply And.intro)
 have h2 : narrowB n E = false := h2
 rw [restF_yes h1 h2]
 have hEl := h1.2.2.1
 refine LoopP.intro (α := Nat × List Ed) (fun s => s.1 <= E.length /\ restK n s.2 (E.drop s.1) = restK n [] E /\ s.2.length <= s.1) (fun s => E.length - s.1) (fun s => [(1, .ptr 0 0), (2, .ptr 2 0), (3, .ptr 3 0), (4, .fn 41 [.ptr 3 0, .ptr 0 0]), (17, .sl 1 none none), (18, .s (.i .i64 E.length)), (19, .s (.i .i64 s.1))])
  (fun s => [(0, some (.blk [.s (.i .i64 n), .sl 1 none none])), (1, some (.flat false 2 (edges E))), (2, some (.blk [.s (.i .i64 0), .nils])), (3, some (.blk [.sl 4 none none])), (4, some (.flat true 2 (edges s.2)))]) 5 (0, []) ⟨by simp, by simp, by simp⟩ (by refine Weak.bw [(0, some _), (1, some _), (2, some _), (3, some _), (4, none)] (by ((repeat' first | exact rfl | exact trivial | apply And.intro) <;> (repeat' first | exact rfl | exact trivial | apply And.intro)); all_goals (exact sc_eq (by rw [edges_length])))) ?_
 rintro ⟨i, K⟩ ⟨hi, hr, hkl⟩
 dsimp only at hi hr hkl ⊢
 refine Pick.by (fun hc => ?_) (fun hc => ?_)
 ·have hlt : i < E.length := by have := of_decide_eq_true hc; omega
  have hget : E[i]? = some E[i] := List.getElem?_eq_getElem hlt
  have hdr : E.drop i = E[i] :: E.drop (i + 1) := List.drop_eq_getElem_cons hlt
  obtain ⟨x, hx⟩ : ∃ x, E[i] = x := ⟨_, rfl⟩
  rw [hx] at hget hdr
  refine Idx.by i rfl (by rw [edges_length]; exact hlt) ?_
  refine Look.by _ (edges_get hget) ?_
  refine ⟨rfl, i, 3, 0, n, K, E, .sl 4 none none, .sl 1 none none, rfl, .inl rfl, .inl rfl, .inr ⟨4, true, rfl, rfl⟩, .inr ⟨1, false, rfl, rfl⟩, hlt, by omega, by omega, ?_⟩
  refine Pick.by (fun h3 => ?_) (fun h3 => ?_)
  ·have h3 : narrowB n (K ++ E.drop (i + 1)) = true := by
    have h3 : (!(!narrowB n (K ++ E.drop (i + 1)))) = true := h3
    simpa using h3
   refine Pick.T (decide_eq_true (by rw [edges_length]; first | omega | (simp; omega) | (show K.length + 1 <= _; omega))) ?_
   refine Pick.n ?_
   refine Next.by (i + 1, K ++ [x]) ⟨by dsimp only; omega, by rw [<- hr, hdr, restK_keep h3], by simp; omega⟩ (by dsimp only; omega) (by refine Weak.bw [(0, some _), (1, some _), (2, some _), (3, some _), (4, some _)] (by ((repeat' first | exact rfl | exact trivial | apply And.intro) <;> (repeat' first | exact rfl | exact trivial | apply And.intro)); all_goals (first | (rw [edges_snoc]; rfl))))
  ·have h3 : narrowB n (K ++ E.drop (i + 1)) = false := by
    have h3 : (!(!narrowB n (K ++ E.drop (i + 1)))) = false := h3
    simpa using h3
   refine Pick.n ?_
   refine Next.by (i + 1, K) ⟨by dsimp only; omega, by rw [<- hr, hdr, restK_go h3], by dsimp only; omega⟩ (by dsimp only; omega) (by refine Weak.ba [(0, some _), (1, some _), (2, some _), (3, some _), (4, some _)])
 have hil : i = E.length := by have := of_decide_eq_false hc; omega
 subst hil
 rw [List.drop_length] at hr
 have hr : K = restK n [] E := hr
 rw [<- hr]
 refine ⟨rfl, ?_⟩
 (repeat' first | exact rfl | exact trivial | apply And.intro)
end Go.Sh
namespace Go.Sh
open Go.Proofs
def stepsE (E : List Ed) (p : List Int) : Prop := ∀ i, i + 1 < p.length -> adjE E (p.getD i 0) (p.getD (i + 1) 0)
def PathP (n : Int) (E : List Ed) (p : List Int) : Prop := RightP n E /\ p ≠ [] /\ (0 <= p.headD 0 /\ p.headD 0 < n) /\ p.Nodup /\ stepsE E p
noncomputable def pathB (n : Int) (E : List Ed) (p : List Int) : Bool := @decide (PathP n E p) (Classical.propDecidable _)
theorem pathB_iff {n : Int} {E : List Ed} {p : List Int} : pathB n E p = true ↔ PathP n E p := @decide_eq_true_iff _ (Classical.propDecidable _)
theorem pathB_no {n : Int} {E : List Ed} {p : List Int} (h : ¬ PathP n E p) : pathB n E p = false := by rw [Bool.eq_false_iff]; exact fun k => h (pathB_iff.1 k)
theorem adj_in {n : Int} {E : List Ed} (hR : RightP n E) {x y : Int} (h : adjE E x y) : (0 <= x /\ x < n) /\ 0 <= y /\ y < n := by
 rcases h with h | h <;> (have := hR.2.2.2.1 _ h; unfold okE at this; dsimp only at this; omega)
theorem getD_at {p : List Int} {i : Nat} (h : i < p.length) : p.getD i 0 = p[i] := by rw [List.getD_eq_getElem?_getD, List.getElem?_eq_getElem h]; rfl
theorem path_in {n : Int} {E : List Ed} {p : List Int} (h : PathP n E p) : ∀ x ∈ p, 0 <= x /\ x < n := fun x hx => by
 obtain ⟨i, hi, rfl⟩ := List.mem_iff_getElem.1 hx
 cases i with
 | zero => rw [show p[0] = p.headD 0 by cases p with | nil => simp at hi | cons a l => rfl]; exact h.2.2.1
 | succ i =>
  have := (adj_in h.1 (h.2.2.2.2 i hi)).2
  rwa [getD_at hi] at this
def innerL (p : List Int) : List Int := (p.drop 1).dropLast
theorem innerL_length (p : List Int) : (innerL p).length = p.length - 2 := by simp [innerL]; omega
theorem innerL_get {p : List Int} {i : Nat} (h : i < p.length - 2) : (innerL p)[i]'(by rw [innerL_length]; exact h) = p[i + 1]'(by omega) := by
 simp only [innerL, List.getElem_dropLast, List.getElem_drop]
 congr 1
 omega
theorem mem_inner {p : List Int} {v : Int} : v ∈ innerL p ↔ ∃ i, ∃ h : i + 2 < p.length, v = p[i + 1]'(by omega) := by
 rw [List.mem_iff_getElem]
 constructor
 ·rintro ⟨i, hi, rfl⟩
  rw [innerL_length] at hi
  exact ⟨i, by omega, innerL_get (by omega)⟩
 ·rintro ⟨i, hi, rfl⟩
  exact ⟨i, by rw [innerL_length]; omega, innerL_get (by omega)⟩
def ApartP (L : List (List Int)) : Prop := ∀ r ∈ L, ∀ v ∈ innerL r, L.flatten.count v = 1
noncomputable def apartB (L : List (List Int)) : Bool := @decide (ApartP L) (Classical.propDecidable _)
theorem apartB_iff {L : List (List Int)} : apartB L = true ↔ ApartP L := @decide_eq_true_iff _ (Classical.propDecidable _)
theorem apartB_no {L : List (List Int)} (h : ¬ ApartP L) : apartB L = false := by rw [Bool.eq_false_iff]; exact fun k => h (apartB_iff.1 k)
def prsT (k : Int) : List (Int × Int) := if k = 1 then [(0, 1), (0, 2), (0, 3), (1, 2), (1, 3), (2, 3)] else if k = 2 then [(0, 1), (0, 1), (0, 1)] else []
def shapeP (k : Int) (T : List Int) (L : List (List Int)) : Prop := (k = 1 /\ T.length = 4 /\ L.length = 6) \/ (k = 2 /\ T.length = 2 /\ L.length = 3)
instance (k : Int) (T : List Int) (L : List (List Int)) : Decidable (shapeP k T L) := by unfold shapeP; exact inferInstance
def fitP (n : Int) (E : List Ed) (k : Int) (T : List Int) (i : Nat) (p : List Int) : Prop :=
 PathP n E p /\ p.headD 0 = T.getD ((prsT k).getD i (0, 0)).1.toNat 0 /\ p.getLastD 0 = T.getD ((prsT k).getD i (0, 0)).2.toNat 0 /\ k + 1 <= p.length
def SubP (n : Int) (E : List Ed) (k : Int) (T : List Int) (L : List (List Int)) : Prop := shapeP k T L /\ (∀ i p, L[i]? = some p -> fitP n E k T i p) /\ ApartP L
noncomputable def subB (n : Int) (E : List Ed) (k : Int) (T : List Int) (L : List (List Int)) : Bool := @decide (SubP n E k T L) (Classical.propDecidable _)
theorem subB_iff {n : Int} {E : List Ed} {k : Int} {T : List Int} {L : List (List Int)} : subB n E k T L = true ↔ SubP n E k T L := @decide_eq_true_iff _ (Classical.propDecidable _)
theorem subB_no {n : Int} {E : List Ed} {k : Int} {T : List Int} {L : List (List Int)} (h : ¬ SubP n E k T L) : subB n E k T L = false := by rw [Bool.eq_false_iff]; exact fun k => h (subB_iff.1 k)
def sbV (o : Bool) (k : Int) (T : List Int) (L : List (List Int)) : V := .agg [.s (.i .i64 k), .flat o 1 (ints T), .nest o 1 (rowsI L)]
theorem sbV_inj {o : Bool} {k k' : Int} {T T' : List Int} {L L' : List (List Int)} (h : sbV o k T L = sbV o k' T' L') : k = k' /\ T = T' /\ L = L' := by
 simp only [sbV, V.agg.injEq, List.cons.injEq, C.nest.injEq, C.flat.injEq, C.s.injEq, Sc.i.injEq, true_and, and_true] at h
 exact ⟨h.1, ints_inj h.2.1, rowsI_inj h.2.2⟩
theorem sub_tops {n : Int} {E : List Ed} {k : Int} {T : List Int} {L : List (List Int)} (h : SubP n E k T L) : T.Nodup := by
 obtain ⟨hs, hf, _⟩ := h
 have key : ∀ i (p : List Int), L[i]? = some p -> p.headD 0 ≠ p.getLastD 0 := fun i p hp e => by
  obtain ⟨hP, _, _, hl⟩ := hf i p hp
  have h2 : 2 <= p.length := by rcases hs with hs | hs <;> omega
  match p, h2, hP.2.2.2.1, e with
  | a :: b :: r, _, hnd, e =>
   have hm : a ∈ b :: r := by
    have e : a = (b :: r).getLastD 0 := by simpa [List.getLastD_cons] using e
    rw [e, List.getLastD_eq_getLast?, List.getLast?_eq_some_getLast (by simp)]
    exact List.getLast_mem _
   exact (List.nodup_cons.1 hnd).1 hm
 have hk : ∀ i, i < L.length -> T.getD ((prsT k).getD i (0, 0)).1.toNat 0 ≠ T.getD ((prsT k).getD i (0, 0)).2.toNat 0 := fun i hi e => by
  obtain ⟨_, h1, h2, _⟩ := hf i _ (List.getElem?_eq_getElem hi)
  exact key i _ (List.getElem?_eq_getElem hi) (by rw [h1, h2, e])
 rcases hs with ⟨rfl, hT, hL⟩ | ⟨rfl, hT, hL⟩
 ·match T, hT with
  | [a, b, c, d], _ =>
   have h0 := hk 0 (by omega)
   have h1 := hk 1 (by omega)
   have h2 := hk 2 (by omega)
   have h3 := hk 3 (by omega)
   have h4 := hk 4 (by omega)
   have h5 := hk 5 (by omega)
   simp [prsT] at h0 h1 h2 h3 h4 h5
   simp; exact ⟨⟨h0, h1, h2⟩, ⟨h3, h4⟩, h5⟩
 ·match T, hT with
  | [a, b], _ =>
   have h0 := hk 0 (by omega)
   simp [prsT] at h0
   simp; exact h0
def fromT (k : Int) (i : Nat) : Nat := ((prsT k).getD i (0, 0)).1.toNat
def modF (k : Int) (T : List Int) (L : List (List Int)) : Int × List (List Int) :=
 if shapeP k T L /\ ∀ p ∈ L, 2 <= p.length then
  (k, if k = 1 then (List.range T.length).map fun i => T.getD i 0 :: ((List.range L.length).filter fun j => fromT 1 j == i).flatMap fun j => innerL (L.getD j [])
   else T.map (fun v => [v]) ++ L.map innerL)
 else (0, [])
def segsR (p : List Int) : List Ed := (List.range (p.length - 1)).map fun i => edN (p.getD i 0, p.getD (i + 1) 0)
def segs (L : List (List Int)) : List Ed := L.flatMap segsR
end Go.Sh
namespace Go.Sh
open Go.Proofs Go.Sort Go.Shelf Go.RowKit
theorem put_heap {α : Type} [Inhabited α] (enc : α -> Value) (w : World) (q b off : Nat) (d : Array α) (os : Array Obj) {x : Nat} (hx : x < w.heap.size) :
  (grow (putRow enc (Sort.ahead w q) b off d) os).heap[x]? = (w.heap[x]?).map fun o => if x = b then onCells (putCells enc off d) o else o := by
 show ((w.heap.modify b (onCells (putCells enc off d))) ++ os)[x]? = _
 rw [Array.getElem?_append_left (by simpa using hx), Array.getElem?_modify]
 by_cases e : b = x
 ·simp [e]
 ·have : ¬ x = b := fun h => e h.symm
  simp [e, this]
noncomputable def sortL (cf : List Int -> List Int -> Int) (L : List (List Int)) : List (List Int) := L.mergeSort fun x y => !(ltOf cf) y x
theorem sortL_perm (cf : List Int -> List Int -> Int) (L : List (List Int)) : (sortL cf L).Perm L := List.mergeSort_perm L _
open Classical in
noncomputable def sortN (cf : List Int -> List Int -> Int) (l : List Flat) : List Flat := if h : ∃ L : List (List Int), l = rowsI L then rowsI (sortL cf h.choose) else l
theorem sortN_rows (cf : List Int -> List Int -> Int) (L : List (List Int)) : sortN cf (rowsI L) = rowsI (sortL cf L) := by
 have h : ∃ L' : List (List Int), rowsI L = rowsI L' := ⟨L, rfl⟩
 unfold sortN
 rw [dif_pos h, <- rowsI_inj h.choose_spec]
def sortNP (good : List Int -> Prop) (cf : List Int -> List Int -> Int) (l : List Flat) : Prop := ∃ L : List (List Int), l = rowsI L /\ (∀ r ∈ L, good r) /\ L.Pairwise (fun x y => ltOf cf x y = true \/ ltOf cf y x = true) /\ L.length <= 1000000
theorem nest_sort {P : Program} {ρ : Ren} (LS : SlLaysF.n6 P ρ) {f c : Nat} (hf : ρ.f 6 = f) (hfn : ∃ fn, P.funcs[f]? = some fn /\ fn.name ≠ "runtime.NumGoroutine" /\ fn.body ≠ none)
  (eg : ∀ args w, (callFunc c args).run P w = .ok (.enter c args) w) (good : List Int -> Prop) (cf : List Int -> List Int -> Int) (hO : SWO (ltOf cf))
  (hC : ∀ (x y : List Int) (A B : Option Addr) (ca cb : Nat) (W : World), good x -> good y -> FlatOk W noLab none A ca 1 (ints x) -> FlatOk W noLab none B cb 1 (ints y) ->
   Calls P c #[.slice A x.length ca, .slice B y.length cb] W fun e w' => e = .returned (.int .i64 (cf x y)) /\ ∃ q os', w' = grow (W.drewN q) os') :
  NestFnCall P f c 1 (sortNP good cf) (sortN cf) := by
 refine ⟨hfn, ?_⟩
 rintro l ⟨L, rfl, hg, hD, hl⟩ w own n A cap rb rc h hown
 rw [sortN_rows]
 subst hf
 rcases Nat.eq_zero_or_pos L.length with h0 | h0
 ·have : L = [] := List.eq_nil_of_length_eq_zero h0
  subst this
  refine (AnyF.slices_SortFunc_none { LS with } A cap _ w).mono ?_
  rintro e w' ⟨rfl, rfl⟩
  refine ⟨rfl, Frm.refl _ _, id, id, fun i hi => ⟨hi, rfl⟩, fun i hi => ⟨hi, rfl⟩, by simp [sortL], fun i fl hi => ?_, fun i fl hi => ?_, ?_⟩
  ·simp [sortL, rowsI] at hi
  ·simp [sortL, rowsI] at hi
  ·rcases h.room rfl with ⟨h1, _⟩ | h1
   ·exact .inl ⟨h1, by simp [sortL, rowsI]⟩
   ·exact .inr h1
 ·obtain ⟨m, hm⟩ : ∃ m, L.length = m + 1 := ⟨L.length - 1, by omega⟩
  rcases h.room rfl with ⟨_, h1⟩ | ⟨b, off, arr, T', hA, ho, hh, hsz⟩
  ·have : L = [] := by simpa [rowsI] using h1
   rw [this] at h0; simp at h0
  have hbl : b < w.heap.size := hown b _ ho
  let el : Fin (m + 1) -> List Int := fun i => L[i.1]'(by omega)
  let enc : Fin (m + 1) -> Value := fun i => .slice (rb i.1) (el i).length (rc i.1)
  let cf' : Fin (m + 1) -> Fin (m + 1) -> Int := fun i j => cf (el i) (el j)
  have hfits := h.fits
  rw [rowsI_length] at hfits
  have hrow : ∀ i : Fin (m + 1), (rowsI L)[i.1]? = some (ints (el i)) := fun i => rowsI_get (List.getElem?_eq_getElem (by omega))
  have hmem : ∀ i : Fin (m + 1), el i ∈ L := fun i => List.getElem_mem _
  have hlt : ∀ i j : Fin (m + 1), ltOf cf' i j = ltOf cf (el i) (el j) := fun i j => rfl
  have hO' : SWO (ltOf cf') := ⟨fun x => hO.irrefl _, fun x y z => hO.trans _ _ _, fun x y z => hO.ntrans _ _ _⟩
  have hT : ∀ x y, (ltOf cf') x y = false -> (ltOf cf') y x = false -> x = y := fun x y h1 h2 => by
   rw [List.pairwise_iff_getElem] at hD
   rcases Nat.lt_trichotomy x.1 y.1 with hxy | hxy | hxy
   ·have := hD x.1 y.1 (by omega) (by omega) hxy
    rw [hlt] at h1 h2
    rcases this with k | k
    ·rw [show ltOf cf L[x.1] L[y.1] = false from h1] at k; simp at k
    ·rw [show ltOf cf L[y.1] L[x.1] = false from h2] at k; simp at k
   ·exact Fin.ext hxy
   ·have := hD y.1 x.1 (by omega) (by omega) hxy
    rw [hlt] at h1 h2
    rcases this with k | k
    ·rw [show ltOf cf L[y.1] L[x.1] = false from h2] at k; simp at k
    ·rw [show ltOf cf L[x.1] L[y.1] = false from h1] at k; simp at k
  have hd : ((List.finRange (m + 1)).toArray).size = m + 1 := by simp
  have hcell : ∀ i : Fin (m + 1), w.cell? ⟨b, off + i.1, none⟩ = some (enc i) := fun i => by
   obtain ⟨a, v, q1, q2, q3, q4⟩ := h.head i.1 _ (hrow i)
   rw [hA] at q1; injection q1 with q1; subst q1
   rw [Addr.add_plain] at q3
   rw [q3, q4 (by simp), ints_length]
  have hH : Holds enc w b off (List.finRange (m + 1)).toArray := fun j hj => by
   rw [hd] at hj
   refine ⟨?_, by simp [World.frozen?, hh]⟩
   rw [getElem!_pos _ j (by rw [hd]; exact hj)]
   have hj' : (List.finRange (m + 1)).toArray[j]'(by rw [hd]; exact hj) = ⟨j, hj⟩ := by simp
   rw [hj', hcell ⟨j, hj⟩]
  have hfl : ∀ (q : Nat) (os : Array Obj) (d' : Array (Fin (m + 1))) (i : Fin (m + 1)), FlatOk (sortWorld enc w b off q d' os) noLab none (rb i.1) (rc i.1) 1 (ints (el i)) := fun q os d' i => by
   have hr := h.row i.1 _ (hrow i) (by simp)
   refine ⟨hr.fits, hr.pos, hr.even, fun i' row j x hi hj => ?_, fun hs => by simp at hs⟩
   obtain ⟨a, k1, k2, k3⟩ := hr.cell i' row j x hi hj
   refine ⟨a, k1, rfl, ?_⟩
   have hab : a.block < w.heap.size := hown _ _ k2
   have hne : a.block ≠ b := fun e => by rw [e, ho] at k2; injection k2 with k2; injection k2 with _ k2; simp at k2
   rw [cell_of_block (w := w)]
   ·exact k3
   ·rw [Addr.add_block]
    show (grow (putRow enc (Sort.ahead w q) b off d') os).heap[a.block]? = _
    rw [put_heap enc w q b off d' os hab]
    simp [hne]
  have hcmp : CmpLays1 P c #[] enc cf' b off (List.finRange (m + 1)).toArray.size w := fun q os dk hs x y =>
   hC (el x) (el y) _ _ _ _ _ (hg _ (hmem x)) (hg _ (hmem y)) (hfl q os dk x) (hfl q os dk y)
  have hS := Any.slices_SortFunc_total LS enc (fun _ => rfl) cf' hO' c #[] b off cap (List.finRange (m + 1)).toArray w eg hcmp hH hbl (by rw [hd]; omega) hT
  rw [rowsI_length, hm, hA]
  rw [hd] at hS
  refine hS.mono ?_
  rintro e w' ⟨rfl, q, os, rfl⟩
  obtain ⟨M, hM⟩ : ∃ M, (List.finRange (m + 1)).mergeSort (fun x y => !(ltOf cf') y x) = M := ⟨_, rfl⟩
  simp only [hM]
  have hperm : M.Perm (List.finRange (m + 1)) := by rw [<- hM]; exact List.mergeSort_perm _ _
  have hML : M.length = m + 1 := by rw [hperm.length_eq]; simp
  have hnd : M.Nodup := hperm.nodup_iff.2 (List.nodup_finRange _)
  have hall : ∀ i : Fin (m + 1), i ∈ M := fun i => hperm.mem_iff.2 (List.mem_finRange i)
  have hmap : sortL cf L = M.map el := by
   have hLm : L = (List.finRange (m + 1)).map el := by
    apply List.ext_getElem
    ·simp [hm]
    ·intro i h1 h2; simp [el]
   rw [<- hM, List.map_mergeSort (r := fun x y => !(ltOf cf') y x) (s := fun x y => !(ltOf cf) y x) (f := el) (fun a _ b _ => rfl), <- hLm]
   rfl
  have hlen : (rowsI (sortL cf L)).length = m + 1 := by rw [hmap]; simp [rowsI, hML]
  let s : Nat -> Nat := fun i => if h : i < M.length then (M[i]).1 else i
  let t : Nat -> Nat := fun j => if h : j < m + 1 then M.idxOf ⟨j, h⟩ else j
  have hs : ∀ i, (hi : i < m + 1) -> s i = (M[i]'(by omega)).1 := fun i hi => by simp only [s]; rw [dif_pos (by omega)]
  have hget : ∀ i fl, (rowsI (sortL cf L))[i]? = some fl -> i < m + 1 /\ ∃ hi : i < M.length, fl = ints (el M[i]) := fun i fl hi => by
   have hil := (List.getElem?_eq_some_iff.1 hi).1
   rw [hlen] at hil
   refine ⟨hil, by omega, ?_⟩
   rw [hmap] at hi
   simp only [rowsI, List.getElem?_map, List.getElem?_eq_getElem (show i < M.length by omega), Option.map_some, Option.some.injEq] at hi
   exact hi.symm
  refine ⟨trivial, ⟨rfl, .of rfl, rfl, ?_, fun x hx hn => ?_⟩, s, t, fun i hi => ⟨by rw [hs i hi]; exact (M[i]'(by omega)).2, ?_⟩, fun i hi => ?_, hlen, fun i fl hi => ?_, fun i fl hi => ?_, .inr ⟨b, off, putCells enc off M.toArray arr, T', rfl, ho, ?_, by simp [putCells]; omega⟩⟩
  ·show w.heap.size <= ((w.heap.modify b _) ++ os).size
   simp
  ·show (grow (putRow enc (Sort.ahead w q) b off M.toArray) os).heap[x]? = _
   rw [put_heap enc w q b off M.toArray os hx]
   have : x ≠ b := fun e => hn (by rw [e]; exact ho)
   simp [this]
  ·have hsi := hs i hi
   simp only [t]
   rw [dif_pos (by rw [hsi]; exact (M[i]'(by omega)).2)]
   have : (⟨s i, by rw [hsi]; exact (M[i]'(by omega)).2⟩ : Fin (m + 1)) = M[i]'(by omega) := Fin.ext hsi
   rw [this]
   exact hnd.idxOf_getElem i (by omega)
  ·have hti : t i = M.idxOf ⟨i, hi⟩ := by simp only [t]; rw [dif_pos hi]
   have hlt' : M.idxOf (⟨i, hi⟩ : Fin (m + 1)) < M.length := List.idxOf_lt_length_of_mem (hall _)
   refine ⟨by omega, ?_⟩
   rw [hti, hs _ (by omega), List.getElem_idxOf hlt']
  ·obtain ⟨hi1, hi2, rfl⟩ := hget i fl hi
   rw [hs i hi1]
   exact hrow _
  ·obtain ⟨hi1, hi2, rfl⟩ := hget i fl hi
   refine ⟨_, rfl, ?_⟩
   rw [Addr.add_plain, hs i hi1]
   show (grow (putRow enc (Sort.ahead w q) b off M.toArray) os).cell? _ = _
   simp only [World.cell?, put_heap enc w q b off M.toArray os hbl, hh, Option.map_some, if_true, onCells]
   show (putCells enc off M.toArray arr)[off + i]? = _
   unfold putCells
   rw [Array.getElem?_mapIdx, Array.getElem?_eq_getElem (by omega), Option.map_some, if_pos (by simp; omega), ints_length]
   rw [getElem!_pos _ _ (by simp; omega)]
   simp [enc]
  ·show (grow (putRow enc (Sort.ahead w q) b off M.toArray) os).heap[b]? = _
   rw [put_heap enc w q b off M.toArray os hbl, hh]
   simp [onCells]
end Go.Sh
namespace Go.Sh
open Go.Proofs
def nxtT (E : List Ed) (p : List Int) : Int := (nearL E (p.getLastD 0)).getD 0 0 + (nearL E (p.getLastD 0)).getD 1 0 - p.getD (p.length - 2) 0
def goT (E : List Ed) : Nat -> List Int -> List Int
 | 0, p => p
 | f + 1, p => if (nearL E (p.getLastD 0)).length = 2 then goT E f (p ++ [nxtT E p]) else p
structure FolT (n : Int) (E : List Ed) (t : Int) (p : List Int) : Prop where
 two : 2 <= p.length
 hd : p.getD 0 0 = t
 st : stepsE E p
 nd : p.dropLast.Nodup
 deg : ∀ i, 1 <= i -> i + 1 < p.length -> (nearL E (p.getD i 0)).length = 2
 ne : ∀ i, i + 2 < p.length -> p.getD i 0 ≠ p.getD (i + 2) 0
theorem adj_ne {n : Int} {E : List Ed} (hR : RightP n E) {x y : Int} (h : adjE E x y) : x ≠ y := by
 rcases h with h | h <;> (have := hR.2.2.2.1 _ h; unfold okE at this; dsimp only at this; omega)
theorem near_nodup {n : Int} {E : List Ed} (hR : RightP n E) (v : Int) : (nearL E v).Nodup :=
 (near_sorted hR.2.2.2.1 hR.2.2.2.2).imp fun h => by omega
theorem lastD_get {p : List Int} (h : 0 < p.length) : p.getLastD 0 = p.getD (p.length - 1) 0 := by
 rw [List.getLastD_eq_getLast?, List.getLast?_eq_getElem?, List.getD_eq_getElem?_getD]
theorem two_near {n : Int} {E : List Ed} (hR : RightP n E) {v a : Int} (h : (nearL E v).length = 2) (ha : adjE E v a) :
  adjE E v ((nearL E v).getD 0 0 + (nearL E v).getD 1 0 - a) /\ (nearL E v).getD 0 0 + (nearL E v).getD 1 0 - a ≠ a /\ ∀ b, adjE E v b -> b = a \/ b = (nearL E v).getD 0 0 + (nearL E v).getD 1 0 - a := by
 have hm : a ∈ nearL E v := mem_nearL.2 ha
 have hnd := near_nodup hR v
 obtain ⟨c, d, hcd⟩ : ∃ c d, nearL E v = [c, d] := by
  match hq : nearL E v, h with
  | [c, d], _ => exact ⟨c, d, rfl⟩
 have hall : ∀ b, adjE E v b ↔ b = c \/ b = d := fun b => by rw [<- mem_nearL, hcd]; simp
 rw [hcd] at hm hnd ⊢
 have hne : c ≠ d := by simpa using hnd
 simp only [List.getD_cons_zero, List.getD_cons_succ]
 simp only [List.mem_cons, List.not_mem_nil, or_false] at hm
 rcases hm with rfl | rfl
 ·rw [show a + d - a = d by omega]
  exact ⟨(hall d).2 (.inr rfl), Ne.symm hne, fun b hb => (hall b).1 hb⟩
 ·rw [show c + a - a = c by omega]
  exact ⟨(hall c).2 (.inl rfl), hne, fun b hb => ((hall b).1 hb).symm⟩
theorem getD_snoc {p : List Int} {x : Int} {i : Nat} : (p ++ [x]).getD i 0 = if i < p.length then p.getD i 0 else if i = p.length then x else 0 := by
 simp only [List.getD_eq_getElem?_getD, List.getElem?_append]
 by_cases h : i < p.length
 ·rw [if_pos h, if_pos h]
 ·rw [if_neg h, if_neg h]
  by_cases h2 : i = p.length
  ·subst h2; simp
  ·rw [if_neg h2, List.getElem?_eq_none (by simp; omega)]; rfl
section
variable {n : Int} {E : List Ed} {t : Int} {p : List Int}
theorem FolT.last_new (h : FolT n E t p) (hR : RightP n E) (ht : (nearL E t).length ≠ 2) (h2 : (nearL E (p.getLastD 0)).length = 2) : p.Nodup := by
 have h0 := h.two
 have hne0 : p ≠ [] := by intro e; rw [e] at h0; simp at h0
 have hl := lastD_get (p := p) (by omega)
 rw [hl] at h2
 have hdl : ∀ i, i + 1 < p.length -> p.dropLast[i]? = some (p.getD i 0) := fun i hi => by
  rw [List.getElem?_dropLast, if_pos (by omega), List.getElem?_eq_getElem (by omega), getD_at (by omega)]
 have hinj : ∀ i j, i + 1 < p.length -> j + 1 < p.length -> p.getD i 0 = p.getD j 0 -> i = j := fun i j hi hj e => by
  have hi' : i < p.dropLast.length := by simp; omega
  exact (List.getElem?_inj hi' h.nd).1 (by rw [hdl i hi, hdl j hj, e])
 have hlast : ∀ j, j + 1 < p.length -> p.getD (p.length - 1) 0 ≠ p.getD j 0 := fun j hj e => by
  rcases Nat.eq_zero_or_pos j with rfl | hj0
  ·rw [e, h.hd] at h2; exact ht h2
  have hdj := h.deg j hj0 hj
  have s1 := h.st (j - 1) (by omega)
  rw [show j - 1 + 1 = j by omega] at s1
  have s2 := h.st j (by omega)
  have s3 := h.st (p.length - 2) (by omega)
  rw [show p.length - 2 + 1 = p.length - 1 by omega, e] at s3
  have hall := (two_near hR hdj s1.symm).2.2
  have hne := h.ne (j - 1) (by omega)
  rw [show j - 1 + 2 = j + 1 by omega] at hne
  have e2 := (hall _ s2).resolve_left (Ne.symm hne)
  rcases hall _ s3.symm with k | k
  ·have := hinj _ _ (by omega) (by omega) k; omega
  ·rw [<- e2] at k
   rcases Nat.lt_or_ge (j + 2) p.length with hj2 | hj2
   ·have := hinj _ _ (by omega) (by omega) k
    have hx := h.ne j (by omega)
    rw [show j + 2 = p.length - 1 by omega] at hx
    exact hx e.symm
   ·have hj3 : j + 1 = p.length - 1 := by omega
    rw [hj3, e] at s2
    exact adj_ne hR s2 rfl
 have hsp : p = p.dropLast ++ [p.getLast hne0] := (List.dropLast_concat_getLast hne0).symm
 rw [hsp, List.nodup_append]
 refine ⟨h.nd, by simp, fun a ha b hb e => ?_⟩
 simp only [List.mem_singleton] at hb
 subst hb
 obtain ⟨j, hj, hja⟩ := List.mem_iff_getElem.1 ha
 rw [List.length_dropLast] at hj
 refine hlast j (by omega) ?_
 rw [getD_at (by omega), getD_at (by omega), <- List.getLast_eq_getElem hne0, <- e, <- hja]
 simp
theorem FolT.next (h : FolT n E t p) (hR : RightP n E) (ht : (nearL E t).length ≠ 2) (h2 : (nearL E (p.getLastD 0)).length = 2) : FolT n E t (p ++ [nxtT E p]) := by
 have h0 := h.two
 have hl := lastD_get (p := p) (by omega)
 have hnd := h.last_new hR ht h2
 have s3 := h.st (p.length - 2) (by omega)
 rw [show p.length - 2 + 1 = p.length - 1 by omega, <- hl] at s3
 obtain ⟨q1, q2, _⟩ := two_near hR h2 s3.symm
 refine ⟨by simp; omega, ?_, fun i hi => ?_, by simpa using hnd, fun i h1 hi => ?_, fun i hi => ?_⟩
 ·rw [getD_snoc, if_pos (by omega)]; exact h.hd
 ·simp at hi
  rw [getD_snoc, getD_snoc, if_pos (by omega)]
  by_cases hi2 : i + 1 < p.length
  ·rw [if_pos hi2]; exact h.st i hi2
  ·rw [if_neg hi2, if_pos (by omega), show i = p.length - 1 by omega, <- hl]
   exact q1
 ·simp at hi
  rw [getD_snoc, if_pos (by omega)]
  by_cases hi2 : i + 1 < p.length
  ·exact h.deg i h1 hi2
  ·rw [show i = p.length - 1 by omega, <- hl]; exact h2
 ·simp at hi
  rw [getD_snoc, getD_snoc, if_pos (by omega)]
  by_cases hi2 : i + 2 < p.length
  ·rw [if_pos hi2]; exact h.ne i hi2
  ·rw [if_neg hi2, if_pos (by omega), show i = p.length - 2 by omega]
   exact Ne.symm q2
theorem FolT.inN (h : FolT n E t p) (hR : RightP n E) : ∀ x ∈ p, 0 <= x /\ x < n := fun x hx => by
 obtain ⟨i, hi, rfl⟩ := List.mem_iff_getElem.1 hx
 have h0 := h.two
 rw [<- getD_at hi]
 by_cases h1 : i + 1 < p.length
 ·exact (adj_in hR (h.st i h1)).1
 ·have := (adj_in hR (h.st (i - 1) (by omega))).2
  rwa [show i - 1 + 1 = i by omega] at this
theorem FolT.len (h : FolT n E t p) (hR : RightP n E) : p.length <= n.toNat + 1 := by
 have := range_len h.nd fun x hx => h.inN hR x ((List.dropLast_sublist _).subset hx)
 simp at this; omega
theorem FolT.len2 (h : FolT n E t p) (hR : RightP n E) (ht : (nearL E t).length ≠ 2) (h2 : (nearL E (p.getLastD 0)).length = 2) : p.length <= n.toNat :=
 range_len (h.last_new hR ht h2) (h.inN hR)
theorem FolT.start {x : Int} (hx : x ∈ nearL E t) : FolT n E t [t, x] where
 two := by simp
 hd := rfl
 st i hi := by
  have hi : i + 1 < 2 := hi
  have : i = 0 := by omega
  subst this
  exact mem_nearL.1 hx
 nd := by simp
 deg i h1 hi := by
  have hi : i + 1 < 2 := hi
  omega
 ne i hi := by
  have hi : i + 2 < 2 := hi
  omega
end
theorem goT_stop {E : List Ed} {f : Nat} {p : List Int} (h : (nearL E (p.getLastD 0)).length ≠ 2) : goT E f p = p := by
 cases f with
 | zero => rfl
 | succ f => exact if_neg h
theorem goT_step {E : List Ed} {f : Nat} {p : List Int} (h : (nearL E (p.getLastD 0)).length = 2) : goT E (f + 1) p = goT E f (p ++ [nxtT E p]) := if_pos h
theorem goT_fol {n : Int} {E : List Ed} {t : Int} (hR : RightP n E) (ht : (nearL E t).length ≠ 2) : ∀ (f : Nat) {p : List Int}, FolT n E t p -> n.toNat + 2 <= f + p.length -> FolT n E t (goT E f p) /\ (nearL E ((goT E f p).getLastD 0)).length ≠ 2 /\ ∃ r, goT E f p = p ++ r := by
 intro f
 induction f with
 | zero =>
  intro p h hf
  have := h.len hR
  omega
 | succ f ih =>
  intro p h hf
  by_cases h2 : (nearL E (p.getLastD 0)).length = 2
  ·rw [goT_step h2]
   obtain ⟨q1, q2, r, q3⟩ := ih (h.next hR ht h2) (by simp; omega)
   exact ⟨q1, q2, nxtT E p :: r, by rw [q3]; simp⟩
  ·rw [goT_stop h2]
   exact ⟨h, h2, [], by simp⟩
def topsK (E : List Ed) (k : Nat) : List Int := ((List.range k).filter fun v => (nearL E (v : Nat)).length == 3).map fun (v : Nat) => (v : Int)
def degOk (E : List Ed) (v : Nat) : Prop := (nearL E (v : Nat)).length = 0 \/ (nearL E (v : Nat)).length = 2 \/ (nearL E (v : Nat)).length = 3
def degsOk (n : Int) (E : List Ed) : Prop := ∀ v : Nat, (v : Int) < n -> degOk E v
def pathT (n : Int) (E : List Ed) (t x : Int) : List Int := goT E n.toNat [t, x]
def keepT (n : Int) (E : List Ed) (t : Int) (l : List Int) : List (List Int) := (l.map fun x => pathT n E t x).filter fun p => decide (t < p.getLastD 0)
def pathsT (n : Int) (E : List Ed) (T : List Int) : List (List Int) := T.flatMap fun t => keepT n E t (nearL E t)
def usedT (L : List (List Int)) : Nat := (L.map fun p => p.length - 1).sum
def cmpT (p q : List Int) : Int := orI [cmpI (p.headD 0) (q.headD 0), cmpI (p.getLastD 0) (q.getLastD 0), cmpI (p.getD 1 0) (q.getD 1 0)]
def ltT (p q : List Int) : Prop := p.headD 0 < q.headD 0 \/ (p.headD 0 = q.headD 0 /\ (p.getLastD 0 < q.getLastD 0 \/ (p.getLastD 0 = q.getLastD 0 /\ p.getD 1 0 < q.getD 1 0)))
theorem cmpT_lt (p q : List Int) : cmpT p q < 0 ↔ ltT p q := by
 unfold cmpT orI cmpI ltT
 repeat' split
 all_goals simp_all
 all_goals omega
theorem ltT_t {x y : List Int} : ltOf cmpT x y = true ↔ ltT x y := by unfold ltOf; rw [decide_eq_true_iff, cmpT_lt]
theorem ltT_f {x y : List Int} : ltOf cmpT x y = false ↔ ¬ ltT x y := by unfold ltOf; rw [decide_eq_false_iff_not, cmpT_lt]
theorem swoT : Go.Sort.SWO (ltOf cmpT) where
 irrefl x := by rw [ltT_f]; unfold ltT; omega
 trans x y z h1 h2 := by rw [ltT_t] at *; unfold ltT at *; omega
 ntrans x y z h1 h2 := by rw [ltT_f] at *; unfold ltT at *; omega
theorem parts_T {p q : List Int} (h : p.headD 0 ≠ q.headD 0 \/ p.getD 1 0 ≠ q.getD 1 0) : ltOf cmpT p q = true \/ ltOf cmpT q p = true := by
 rw [ltT_t, ltT_t]; unfold ltT; omega
def kindT (T : List Int) : Int := if T.length = 4 then 1 else if T.length = 2 then 2 else 0
def ReadP (n : Int) (E : List Ed) : Prop := RightP n E /\ degsOk n E /\ kindT (topsK E n.toNat) ≠ 0 /\ usedT (pathsT n E (topsK E n.toNat)) = E.length /\
 SubP n E (kindT (topsK E n.toNat)) (topsK E n.toNat) (sortL cmpT (pathsT n E (topsK E n.toNat)))
open Classical in
noncomputable def readF (n : Int) (E : List Ed) : (Int × List Int × List (List Int)) × Bool :=
 if ReadP n E then ((kindT (topsK E n.toNat), topsK E n.toNat, sortL cmpT (pathsT n E (topsK E n.toNat))), true) else ((0, [], []), false)
theorem readF_no {n : Int} {E : List Ed} (h : ¬ ReadP n E) : readF n E = ((0, [], []), false) := if_neg h
theorem readF_yes {n : Int} {E : List Ed} (h : ReadP n E) : readF n E = ((kindT (topsK E n.toNat), topsK E n.toNat, sortL cmpT (pathsT n E (topsK E n.toNat))), true) := if_pos h
theorem mem_topsK {E : List Ed} {k : Nat} {t : Int} : t ∈ topsK E k ↔ 0 <= t /\ t < k /\ (nearL E t).length = 3 := by
 unfold topsK
 rw [List.mem_map]
 constructor
 ·rintro ⟨v, hv, rfl⟩
  rw [List.mem_filter, List.mem_range] at hv
  exact ⟨by omega, by omega, by simpa using hv.2⟩
 ·rintro ⟨h0, h1, h2⟩
  exact ⟨t.toNat, by rw [List.mem_filter, List.mem_range, show ((t.toNat : Nat) : Int) = t by omega]; exact ⟨by omega, by simpa using h2⟩, by omega⟩
theorem topsK_sorted (E : List Ed) (k : Nat) : (topsK E k).Pairwise (· < ·) := by
 unfold topsK
 rw [List.pairwise_map]
 exact (List.pairwise_lt_range.filter _).imp fun h => by omega
theorem topsK_succ (E : List Ed) (k : Nat) : topsK E (k + 1) = topsK E k ++ (if (nearL E (k : Nat)).length = 3 then [(k : Int)] else []) := by
 unfold topsK
 rw [List.range_succ, List.filter_append, List.map_append]
 congr 1
 by_cases h : (nearL E (k : Nat)).length = 3 <;> simp [h]
theorem pathT_is {n : Int} {E : List Ed} (hR : RightP n E) {t x : Int} (ht : (nearL E t).length = 3) (hx : x ∈ nearL E t) :
  FolT n E t (pathT n E t x) /\ (nearL E ((pathT n E t x).getLastD 0)).length ≠ 2 /\ ∃ r, pathT n E t x = t :: x :: r := by
 obtain ⟨h1, h2, r, h3⟩ := goT_fol hR (by omega) n.toNat (FolT.start hx) (by simp)
 exact ⟨h1, h2, r, h3⟩
theorem mem_keepT {n : Int} {E : List Ed} {t : Int} {l : List Int} {p : List Int} : p ∈ keepT n E t l ↔ (∃ x ∈ l, p = pathT n E t x) /\ t < p.getLastD 0 := by
 unfold keepT
 rw [List.mem_filter, List.mem_map, decide_eq_true_iff]
 exact and_congr_left fun _ => ⟨fun ⟨x, hx, e⟩ => ⟨x, hx, e.symm⟩, fun ⟨x, hx, e⟩ => ⟨x, hx, e.symm⟩⟩
theorem keepT_snoc (n : Int) (E : List Ed) (t : Int) (l : List Int) (x : Int) : keepT n E t (l ++ [x]) = keepT n E t l ++ (if t < (pathT n E t x).getLastD 0 then [pathT n E t x] else []) := by
 unfold keepT
 rw [List.map_append, List.filter_append]
 congr 1
 rw [List.map_cons, List.map_nil]
 by_cases h : t < (pathT n E t x).getLastD 0
 ·rw [if_pos h, List.filter_cons, if_pos (decide_eq_true h)]; rfl
 ·rw [if_neg h, List.filter_cons, if_neg (by rw [decide_eq_true_iff]; exact h)]; rfl
theorem paths_keys {n : Int} {E : List Ed} (hR : RightP n E) {T : List Int} (hT : ∀ t ∈ T, (nearL E t).length = 3) (hnd : T.Nodup) :
  (pathsT n E T).Pairwise (fun x y => ltOf cmpT x y = true \/ ltOf cmpT y x = true) := by
 unfold pathsT
 rw [List.pairwise_flatMap]
 refine ⟨fun t ht => ?_, ?_⟩
 ·unfold keepT
  refine List.Pairwise.filter _ ?_
  rw [List.pairwise_map]
  refine List.Pairwise.imp_of_mem ?_ (near_nodup hR t)
  intro x y hx hy hne
  obtain ⟨_, _, r, hr⟩ := pathT_is hR (hT t ht) hx
  obtain ⟨_, _, q, hq⟩ := pathT_is hR (hT t ht) hy
  rw [hr, hq]
  exact parts_T (.inr (by simpa using hne))
 ·refine List.Pairwise.imp_of_mem ?_ hnd
  intro t u ht hu hne p hp q hq
  obtain ⟨⟨x, hx, rfl⟩, _⟩ := mem_keepT.1 hp
  obtain ⟨⟨y, hy, rfl⟩, _⟩ := mem_keepT.1 hq
  obtain ⟨_, _, r, hr⟩ := pathT_is hR (hT t ht) hx
  obtain ⟨_, _, q, hq⟩ := pathT_is hR (hT u hu) hy
  rw [hr, hq]
  exact parts_T (.inl (by simpa using hne))
end Go.Sh
namespace Go.Sh
open Go.Proofs Go.Sort Go.Shelf Go.RowKit
def goodT (x : List Int) : Prop := 2 <= x.length /\ x.length <= 1000000
theorem hd_get {x : List Int} (h : 0 < x.length) : x[0]? = some (x.headD 0) := by cases x with | nil => simp at h | cons a l => rfl
theorem last_get {x : List Int} (h : 0 < x.length) : x[x.length - 1]? = some (x.getLastD 0) := by rw [List.getLastD_eq_getLast?, List.getLast?_eq_getElem?, List.getElem?_eq_getElem (by omega)]; rfl
theorem getD_get {x : List Int} {i : Nat} (h : i < x.length) : x[i]? = some (x.getD i 0) := by rw [List.getD_eq_getElem?_getD, List.getElem?_eq_getElem h]; rfl
theorem CloT_p [Fwd] : SoundP Tryz.prog 28 (conF (fun a : List Int × List Int => goodT a.1 /\ goodT a.2) (fun a => [.one (.flat false 1 (ints a.1)), .one (.flat false 1 (ints a.2))]) (fun a => .one (.s (.i .i64 (cmpT a.1 a.2))))) := by
 refine con_pure (X := { Γ := [(30, CompareC), (29, OrC)], T := T, nt := 34 }) cr_none hmix hT (sound_cons Compare_ok (sound_cons Or_ok sound_nil)) Tryz.func28 (by rfl) (by rfl) (by rfl) 2 ?_
 rintro ⟨x, y⟩ ⟨⟨hx, hx2⟩, hy, hy2⟩
 dsimp only at hx hx2 hy hy2 ⊢
 refine two_le ?_
 refine Idx.by 0 rfl (by rw [ints_length]; omega) ?_
 refine Look.by _ (ints_get (hd_get (by omega))) ?_
 refine Idx.by 0 rfl (by rw [ints_length]; omega) ?_
 refine Look.by _ (ints_get (hd_get (by omega))) ?_
 refine Call.by _ _ (CompareC_at _ _) ?_
 refine Pick.T (inI64_of (by rw [ints_length]; omega) (by rw [ints_length]; omega)) ?_
 refine Idx.by (x.length - 1) (by rw [ints_length]; omega) (by rw [ints_length]; omega) ?_
 refine Look.by _ (ints_get (last_get (by omega))) ?_
 refine Pick.T (inI64_of (by rw [ints_length]; omega) (by rw [ints_length]; omega)) ?_
 refine Idx.by (y.length - 1) (by rw [ints_length]; omega) (by rw [ints_length]; omega) ?_
 refine Look.by _ (ints_get (last_get (by omega))) ?_
 refine Call.by _ _ (CompareC_at _ _) ?_
 refine Idx.by 1 rfl (by rw [ints_length]; omega) ?_
 refine Look.by _ (ints_get (getD_get (by omega))) ?_
 refine Idx.by 1 rfl (by rw [ints_length]; omega) ?_
 refine Look.by _ (ints_get (getD_get (by omega))) ?_
 refine Call.by _ _ (CompareC_at _ _) ?_
 refine Call.by _ _ (OrC_at (l := [cmpI (x.headD 0) (y.headD 0), cmpI (x.getLastD 0) (y.getLastD 0), cmpI (x.getD 1 0) (y.getD 1 0)]) (by simp)) ?_
 refine Seg.by (by kernel_rfl) ?_
 refine ⟨rfl, ?_⟩
 show _ = _
 rfl
theorem cloT_call (x y : List Int) (A B : Option Addr) (ca cb : Nat) (W : World) (hx : goodT x) (hy : goodT y) (h1 : FlatOk W noLab none A ca 1 (ints x)) (h2 : FlatOk W noLab none B cb 1 (ints y)) :
  Calls Tryz.prog 28 #[.slice A x.length ca, .slice B y.length cb] W fun e w' => e = .returned (.int .i64 (cmpT x y)) /\ ∃ q os', w' = grow (W.drewN q) os' := by
 letI : Fwd := ⟨True⟩
 have hF : conF (fun a : List Int × List Int => goodT a.1 /\ goodT a.2) (fun a => [V.one (.flat false 1 (ints a.1)), .one (.flat false 1 (ints a.2))]) (fun a => V.one (C.s (.i .i64 (cmpT a.1 a.2)))) [.one (.flat false 1 (ints x)), .one (.flat false 1 (ints y))] = some (.one (.s (.i .i64 (cmpT x y))), []) :=
  conF_at (a := (x, y)) (fun a b _ _ h => by simp at h; rw [ints_inj h.1, ints_inj h.2]) ⟨hx, hy⟩
 refine (CloT_p _ _ _ hF W #[.slice A x.length ca, .slice B y.length cb] ⟨⟨⟨A, ca, fun _ => none, fun _ => 0⟩, by rw [ints_length], h1⟩, ⟨⟨B, cb, fun _ => none, fun _ => 0⟩, by rw [ints_length], h2⟩, trivial⟩).mono ?_
 rintro e w' ⟨u, lab, rfl, hf, _, hu⟩
 obtain ⟨p, hu⟩ := hu
 refine ⟨?_, frm_grow trivial hf⟩
 show Ending.returned u = _
 rw [show u = (Sc.i .i64 (cmpT x y)).val from hu]
 rfl
theorem SortT_row : NestFnCall Tryz.prog 27 28 1 (sortNP goodT cmpT) (sortN cmpT) :=
 nest_sort Tryz.laysSortR rfl ⟨_, Tryz.func27, by decide, by simp [Tryz.f27]⟩
  (enters_of Tryz.func28 (by kernel_rfl) rfl) goodT cmpT swoT cloT_call
end Go.Sh
namespace Go.Proofs
open Go.RowKit Go.Sh
attribute [local go_sem] Oper.semAt_some
def Tryz.prsR (k : Int) : Option (Nat × Flat) := if k = 1 \/ k = 2 then some (2, edges (prsT k)) else none
theorem Tryz.edges_ev (l : List Ed) : ∀ (i : Nat) (row : Row), (edges l)[i]? = some row -> row.length = 2 := fun i row h => by
 simp only [edges, List.getElem?_map, Option.map_eq_some_iff] at h
 obtain ⟨x, _, rfl⟩ := h
 rfl
theorem Tryz.al_size (W : World) (o : Obj) : (W.alloc o).heap.size = W.heap.size + 1 := by show (W.heap.push o).size = _; simp
theorem Tryz.rows_at {w' : World} {own : Nat -> Option Key} {key : Key} {b : Nat} {arr : Array Value} {T : TypeId} {E : List Ed} (hh : w'.heap[b]? = some (.cells arr T (0, 0))) (ho : own b = some key) (hs : arr.size = E.length * 2) (hl : E.length <= 1000)
  (hc : ∀ (k : Nat) (x : Ed), E[k]? = some x -> arr[k * 2]? = some (.int .i64 x.1) /\ arr[k * 2 + 1]? = some (.int .i64 x.2)) : FlatOk w' own (some key) (some ⟨b, 0, none⟩) E.length 2 (edges E) := by
 refine ⟨by rw [edges_length]; exact Nat.le_refl _, by omega, Tryz.edges_ev E, fun r row q x hr hq => ?_, fun _ => .inr ⟨b, 0, arr, T, rfl, ho, hh, by omega, by omega⟩⟩
 simp only [edges, List.getElem?_map, Option.map_eq_some_iff] at hr
 obtain ⟨x0, hx0, rfl⟩ := hr
 have hql : q < 2 := (List.getElem?_eq_some_iff.1 hq).1
 refine ⟨_, rfl, ho, ?_⟩
 obtain ⟨c1, c2⟩ := hc r x0 hx0
 rw [Addr.add_plain]
 simp only [World.cell?, hh, Nat.zero_add]
 match q, hql, hq with
 | 0, _, hq => simp at hq; subst hq; rw [Nat.add_zero]; exact c1
 | 1, _, hq => simp at hq; subst hq; exact c2
set_option maxRecDepth 100000 in
set_option maxHeartbeats 4000000 in
theorem Tryz.pairs_run (k : Int) (w : World) : Calls Tryz.prog 53 #[.int .i64 k] w fun e w' => ∃ u, e = .returned u /\ Frm (fun _ => False) w w' /\ newOut w w' u (Tryz.prsR k) := by
 have hfr : ∀ o1 o2 : Obj, Frm (fun _ => False) w ((w.alloc o1).alloc o2) := fun o1 o2 => by
  refine ⟨rfl, .rfl, rfl, by rw [Tryz.al_size, Tryz.al_size]; omega, fun b hb _ => ?_⟩
  rw [heap_alloc_lt _ _ (by rw [Tryz.al_size]; omega), heap_alloc_lt _ _ hb]
 have hat0 : ∀ o1 o2 : Obj, ((w.alloc o1).alloc o2).heap[w.heap.size]? = some o1 := fun o1 o2 => by
  rw [heap_alloc_lt _ _ (by rw [Tryz.al_size]; omega), heap_alloc_at]
 have hat1 : ∀ o1 o2 : Obj, ((w.alloc o1).alloc o2).heap[w.heap.size + 1]? = some o2 := fun o1 o2 => by
  have := heap_alloc_at (w.alloc o1) o2
  rwa [Tryz.al_size] at this
 have hsz : ∀ o1 o2 : Obj, ((w.alloc o1).alloc o2).heap.size = w.heap.size + 2 := fun o1 o2 => by rw [Tryz.al_size, Tryz.al_size]
 by_cases h1 : k = 1
 ·subst h1
  go_enter Tryz.func53, Tryz.ntmps53
  go_wp2
  go_ret
  refine ⟨_, rfl, hfr _ _, some ⟨w.heap.size, 0, none⟩, 6, rfl, fun key => ?_⟩
  exact Tryz.rows_at (E := prsT 1) (hat0 _ _) (by rw [if_pos ⟨Nat.le_refl _, by rw [hsz]; omega⟩]) rfl (by decide) (fun k x hx => by
   have hk : k < 6 := (List.getElem?_eq_some_iff.1 hx).1
   match k, hk, hx with
   | 0, _, hx => cases hx; exact ⟨rfl, rfl⟩
   | 1, _, hx => cases hx; exact ⟨rfl, rfl⟩
   | 2, _, hx => cases hx; exact ⟨rfl, rfl⟩
   | 3, _, hx => cases hx; exact ⟨rfl, rfl⟩
   | 4, _, hx => cases hx; exact ⟨rfl, rfl⟩
   | 5, _, hx => cases hx; exact ⟨rfl, rfl⟩)
 ·by_cases h2 : k = 2
  ·subst h2
   go_enter Tryz.func53, Tryz.ntmps53
   go_wp2
   go_ret
   refine ⟨_, rfl, hfr _ _, some ⟨w.heap.size + 1, 0, none⟩, 3, rfl, fun key => ?_⟩
   exact Tryz.rows_at (E := prsT 2) (hat1 _ _) (by rw [if_pos ⟨by omega, by rw [hsz]; omega⟩]) rfl (by decide) (fun k x hx => by
    have hk : k < 3 := (List.getElem?_eq_some_iff.1 hx).1
    match k, hk, hx with
    | 0, _, hx => cases hx; exact ⟨rfl, rfl⟩
    | 1, _, hx => cases hx; exact ⟨rfl, rfl⟩
    | 2, _, hx => cases hx; exact ⟨rfl, rfl⟩)
  ·have hr : Tryz.prsR k = none := if_neg (by omega)
   rw [hr]
   go_enter Tryz.func53, Tryz.ntmps53
   go_wp2
   go_ret
   exact ⟨_, rfl, hfr _ _, rfl⟩
theorem Tryz.pairs_call : NewCall Tryz.prog 53 (fun x => match x with | .i .i64 k => some (Tryz.prsR k) | _ => none) := by
 refine ⟨⟨_, Tryz.func53, by decide, by simp [Tryz.f53]⟩, fun x r hx w => ?_⟩
 cases x with
 | i kd k =>
  cases kd <;> simp at hx
  subst hx
  exact Tryz.pairs_run k w
 | b v => simp at hx
end Go.Proofs
namespace Go.Sh
open Go.Proofs
noncomputable def TopsC : Con := conP 1 (fun _ : Int => True) (fun k => [.one (.s (.i .i64 k))]) (fun k => .one (.s (.i .i64 (if k = 1 then 4 else 2))))
theorem TopsC_at (k : Int) : TopsC.F [.one (.s (.i .i64 k))] = some (.one (.s (.i .i64 (if k = 1 then 4 else 2))), []) :=
 conP_at (a := k) (fun x y _ _ h => by simp at h; rw [h]) trivial
theorem Tops_ok : SoundC Tryz.prog T 54 TopsC := by
 refine sound_con (X := { Γ := [], T := T, nt := 5 }) cr_none hmix hT sound_nil Tryz.func54 (by rfl) (by rfl) (by rfl) (by rfl) 1 ?_
 rintro k -
 refine two_le ?_
 refine Pick.by (fun h1 => ?_) (fun h1 => ?_)
 ·have h1 : k = 1 := by simpa using h1
  refine ⟨rfl, ?_⟩
  show _ = _
  rw [if_pos h1]
 ·have h1 : ¬ k = 1 := by simpa using h1
  refine ⟨rfl, ?_⟩
  show _ = _
  rw [if_neg h1]
noncomputable def PathC : Con := conP 2 (fun a : (Int × List Ed) × List Int => a.2.length <= 1000000) (fun a => [grV a.1.1 a.1.2, .one (.flat false 1 (ints a.2))]) (fun a => .one (.s (.b (pathB a.1.1 a.1.2 a.2))))
theorem PathC_at {n : Int} {E : List Ed} {l : List Int} (h : l.length <= 1000000) : PathC.F [grV n E, .one (.flat false 1 (ints l))] = some (.one (.s (.b (pathB n E l))), []) :=
 conP_at (a := ((n, E), l)) (fun a b _ _ h => by
  obtain ⟨⟨n, E⟩, l⟩ := a
  obtain ⟨⟨n', E'⟩, l'⟩ := b
  simp at h
  obtain ⟨h1, h2⟩ := h
  obtain ⟨rfl, rfl⟩ := grV_inj h1
  rw [ints_inj h2]) h
theorem noP {n : Int} {E : List Ed} {l : List Int} (h : ¬ PathP n E l) : Sc.b false = Sc.b (pathB n E l) := by rw [pathB_no h]
theorem hasG_adj {n : Int} {E : List Ed} {a b : Int} (hR : RightP n E) : hasG n E a b = true ↔ adjE E a b := by
 unfold hasG
 rw [decide_eq_true hR, Bool.true_and, List.elem_iff, mem_nearL]
set_option maxHeartbeats 1000000 in
theorem Path_ok : SoundC Tryz.prog T 57 PathC := by
 refine sound_con (X := { Γ := [(25, RightC), (77, UnlikeC), (80, HasGC)], T := T, nt := 52 }) cr_none hmix hT (sound_cons RightG_ok (sound_cons Unlike_ok (sound_cons Has_ok sound_nil))) Tryz.func57 (by rfl) (by rfl) (by rfl) (by rfl) 3 ?_
 rintro ⟨⟨n, E⟩, l⟩ hl
 dsimp only at hl
 refine two_le ?_
 refine Call.by _ _ (RightC_at n E) ?_
 refine Pick.by (fun h1 => ?_) (fun h1 => ?_)
 ·have h1 : ¬ RightP n E := by have h1 : (!decide (RightP n E)) = true := h1; simpa using h1
  refine Seg.by (by kernel_rfl) ?_
  refine ⟨rfl, ?_⟩
  show Sc.b false = Sc.b (pathB n E l)
  exact noP fun h => h1 h.1
 have h1 : RightP n E := by have h1 : (!decide (RightP n E)) = false := h1; simpa using h1
 refine Pick.by (fun h2 => ?_) (fun h2 => ?_)
 ·have h2 : l = [] := by simpa [ints] using h2
  refine Seg.by (by kernel_rfl) ?_
  refine ⟨rfl, ?_⟩
  show Sc.b false = Sc.b (pathB n E l)
  exact noP fun h => h.2.1 h2
 have h2 : l ≠ [] := by simpa [ints] using h2
 have hpos : 0 < l.length := List.length_pos_iff.2 h2
 have hhd : l[0] = l.headD 0 := by cases l with | nil => exact absurd rfl h2 | cons a l => rfl
 refine Idx.by 0 rfl (by rw [ints_length]; exact hpos) ?_
 refine Look.by _ (ints_get (List.getElem?_eq_getElem hpos)) ?_
 refine Pick.by (fun h3 => ?_) (fun h3 => ?_)
 ·have h3 : l[0] < 0 := of_decide_eq_true h3
  refine Seg.by (by kernel_rfl) ?_
  refine ⟨rfl, ?_⟩
  show Sc.b false = Sc.b (pathB n E l)
  exact noP fun h => by have := h.2.2.1; omega
 have h3 : ¬ l[0] < 0 := of_decide_eq_false h3
 refine Idx.by 0 rfl (by rw [ints_length]; exact hpos) ?_
 refine Look.by _ (ints_get (List.getElem?_eq_getElem hpos)) ?_
 refine Pick.by (fun h4 => ?_) (fun h4 => ?_)
 ·have h4 : l[0] ≥ n := of_decide_eq_true h4
  refine Seg.by (by kernel_rfl) ?_
  refine ⟨rfl, ?_⟩
  show Sc.b false = Sc.b (pathB n E l)
  exact noP fun h => by have := h.2.2.1; omega
 have h4 : ¬ l[0] ≥ n := of_decide_eq_false h4
 refine Call.by _ _ (UnlikeC_at hl) ?_
 refine Seg.by (by kernel_rfl) ?_
 refine Pick.by (fun h5 => ?_) (fun h5 => ?_)
 ·have h5 : ¬ l.Nodup := by have h5 : (!decide l.Nodup) = true := h5; simpa using h5
  refine ⟨rfl, ?_⟩
  show Sc.b false = Sc.b (pathB n E l)
  exact noP fun h => h5 h.2.2.2.1
 have h5 : l.Nodup := by have h5 : (!decide l.Nodup) = false := h5; simpa using h5
 have hE4 := h1.2.2.1
 refine Pick.T (inI64_of (by rw [ints_length]; show _ <= (l.length : Int) - 1; omega) (by rw [ints_length]; show (l.length : Int) - 1 <= _; omega)) ?_
 refine LoopP.intro (α := Nat) (fun k => k + 1 <= l.length /\ ∀ i, i < k -> adjE E (l.getD i 0) (l.getD (i + 1) 0)) (fun k => l.length - k) (fun k => [(1, .sl 2 none none), (2, .ptr 0 0), (35, .s (.i .i64 ((l.length : Int) - 1))), (36, .s (.i .i64 k))])
  (fun k => [(0, some (.blk [.s (.i .i64 n), .sl 1 none none])), (1, some (.flat false 2 (edges E))), (2, some (.flat false 1 (ints l)))]) 3 0 ⟨by omega, fun i h => by omega⟩ (by refine Weak.bw [(0, some _), (1, some _), (2, some _)] (by ((repeat' first | exact rfl | exact trivial | apply And.intro) <;> (repeat' first | exact rfl | exact trivial | apply And.intro)); all_goals (exact sc_eq (by rw [ints_length])))) ?_
 rintro k ⟨hk, hst⟩
 refine Pick.by (fun hc => ?_) (fun hc => ?_)
 ·have hlt : k + 1 < l.length := by have := of_decide_eq_true hc; omega
  refine Idx.by k rfl (by rw [ints_length]; omega) ?_
  refine Look.by _ (ints_get (List.getElem?_eq_getElem (by omega))) ?_
  refine Pick.n ?_
  refine Idx.by (k + 1) (by omega) (by rw [ints_length]; omega) ?_
  refine Look.by _ (ints_get (List.getElem?_eq_getElem hlt)) ?_
  refine Call.by _ _ (HasGC_at _ _ (by omega)) ?_
  refine Seg.by (by kernel_rfl) ?_
  refine Pick.by (fun h6 => ?_) (fun h6 => ?_)
  ·have h6 : hasG n E l[k] l[k + 1] = false := by have h6 : (!hasG n E l[k] l[k + 1]) = true := h6; simpa using h6
   refine ⟨rfl, ?_⟩
   show Sc.b false = Sc.b (pathB n E l)
   exact noP fun h => by
    have := h.2.2.2.2 k hlt
    rw [getD_at (by omega), getD_at hlt, <- hasG_adj h1, h6] at this
    cases this
  ·have h6 : hasG n E l[k] l[k + 1] = true := by have h6 : (!hasG n E l[k] l[k + 1]) = false := h6; simpa using h6
   refine Pick.n ?_
   refine Next.by (k + 1) ⟨by omega, fun i hi => ?_⟩ (by omega) (by refine Weak.ba [(0, some _), (1, some _), (2, some _)])
   rcases Nat.lt_or_ge i k with h | h
   ·exact hst i h
   ·obtain rfl : i = k := by omega
    rw [getD_at (by omega), getD_at hlt, <- hasG_adj h1]
    exact h6
 ·have hge : l.length = k + 1 := by have := of_decide_eq_false hc; omega
  refine ⟨rfl, ?_⟩
  show Sc.b true = Sc.b (pathB n E l)
  rw [pathB_iff.2 ⟨h1, h2, by omega, h5, fun i hi => hst i (by omega)⟩]
def fewL (L : List (List Int)) : Prop := L.length <= 100 /\ ∀ l ∈ L, l.length <= 5000
theorem srt_two {v : Int} : ∀ {l : List Int}, l.Pairwise (· <= ·) -> v ∈ l -> ((l[l.countP (· < v) + 1]? = some v) ↔ l.count v ≠ 1)
 | [], _, h => by simp at h
 | a :: r, hs, hm => by
  obtain ⟨h1, h2⟩ := List.pairwise_cons.1 hs
  rcases Int.lt_trichotomy a v with h | h | h
  ·have hm' : v ∈ r := by rcases List.mem_cons.1 hm with e | e; (· omega); exact e
   have ih := srt_two h2 hm'
   rw [List.countP_cons_of_pos (by simpa using h), List.getElem?_cons_succ, ih, List.count_cons_of_ne (by omega)]
  ·subst h
   have h0 : r.countP (· < a) = 0 := List.countP_eq_zero.2 fun x hx => by have := h1 x hx; simp; omega
   rw [List.countP_cons_of_neg (by simp), h0, List.count_cons_self]
   cases r with
   | nil => simp
   | cons b r =>
    obtain ⟨h3, h4⟩ := List.pairwise_cons.1 h2
    have hb := h1 b (by simp)
    simp only [Nat.zero_add, List.getElem?_cons_succ, List.getElem?_cons_zero, Option.some.injEq]
    by_cases e : b = a
    ·subst e; simp
    ·have : (b :: r).count a = 0 := List.count_eq_zero.2 fun hx => by
      rcases List.mem_cons.1 hx with e2 | e2
      ·exact e e2.symm
      ·have := h3 a e2; omega
     rw [this]; simp [e]
  ·exfalso
   rcases List.mem_cons.1 hm with e | e
   ·omega
   ·have := h1 v e; omega
def fewA (L : List (List Int)) : Prop := L.length <= 1000 /\ (∀ l ∈ L, l.length <= 5000) /\ L.flatten.length <= 500000
theorem few_app {L : List (List Int)} (h : fewL L) : fewA L := by
 refine ⟨by have := h.1; omega, h.2, ?_⟩
 have h1 := flatten_len (S := L) (m := 5000) h.2
 have h2 := Nat.mul_le_mul_right 5000 h.1
 omega
theorem take_flat (L : List (List Int)) (i : Nat) : (L.take i).flatten.length <= L.flatten.length := by
 conv => rhs; rw [<- List.take_append_drop i L, List.flatten_append, List.length_append]
 omega
noncomputable def ApartC : Con := conP 1 (fun L : List (List Int) => fewA L) (fun L => [.one (.nest false 1 (rowsI L))]) (fun L => .one (.s (.b (apartB L))))
theorem ApartC_at {L : List (List Int)} (h : fewA L) : ApartC.F [.one (.nest false 1 (rowsI L))] = some (.one (.s (.b (apartB L))), []) :=
 conP_at (a := L) (fun x y _ _ h => by simp at h; rw [rowsI_inj h]) h
theorem noA {L : List (List Int)} (h : ¬ ApartP L) : Sc.b false = Sc.b (apartB L) := by rw [apartB_no h]
set_option maxHeartbeats 1000000 in
theorem Apart_ok : SoundC Tryz.prog T 58 ApartC := by
 refine sound_con (X := { Γ := [(82, SearchC)], T := T, nt := 65, ext := [81] }) (rowIn_ok Sort_row) hmix hT (sound_cons Search_ok sound_nil) Tryz.func58 (by rfl) (by rfl) (by rfl) (by rfl) 1 ?_
 rintro L ⟨hL, hLr, hLf⟩
 refine two_le ?_
 refine LoopP.intro (α := Nat) (fun i => i <= L.length) (fun i => L.length - i) (fun i => [(0, .sl 0 none none), (3, .sl 1 none none), (12, .sl 0 none none), (13, .s (.i .i64 L.length)), (14, .s (.i .i64 i))])
  (fun i => [(0, some (.nest false 1 (rowsI L) [] [])), (1, some (.flat true 1 (ints (L.take i).flatten)))]) 2 0 (by omega) (by refine Weak.bw [(0, some _), (1, none)] (by ((repeat' first | exact rfl | exact trivial | apply And.intro) <;> (repeat' first | exact rfl | exact trivial | apply And.intro)); all_goals (exact sc_eq (by rw [rowsI_length])))) ?_
 rintro i hi
 have hfl : (L.take i).flatten.length <= 500000 := Nat.le_trans (take_flat L i) hLf
 refine Pick.by (fun hc => ?_) (fun hc => ?_)
 ·have hlt : i < L.length := by have := of_decide_eq_true hc; omega
  have hSi : L[i]? = some L[i] := List.getElem?_eq_getElem hlt
  have hsl := hLr _ (List.getElem_mem hlt)
  refine Idx.by i rfl (by rw [rowsI_length]; exact hlt) ?_
  refine Pick.T (by simpa [rowsI_length] using hlt) ?_
  refine Look.by _ (rowsI_get hSi) ?_
  refine Pick.T (by simp [cut, ints_length] at hfl ⊢; omega) ?_
  refine Pick.n ?_
  refine Next.by (i + 1) (by omega) (by omega) (by refine Weak.bw [(0, some _), (1, some _)] (by ((repeat' first | exact rfl | exact trivial | apply And.intro) <;> (repeat' first | exact rfl | exact trivial | apply And.intro)); all_goals ((rw [List.take_succ_eq_append_getElem hlt, flat_snoc, ints_append]; rfl))))
 have hge : L.length <= i := by have := of_decide_eq_false hc; omega
 rw [List.take_of_length_le hge] at hfl ⊢
 refine ⟨rfl, _, rfl, by omega, ?_⟩
 have hss := sortI_sorted L.flatten
 have hsp : (sortI L.flatten).Perm L.flatten := List.mergeSort_perm _ _
 have hsl := sortI_length L.flatten
 obtain ⟨M, hM⟩ : ∃ M, sortI L.flatten = M := ⟨_, rfl⟩
 rw [hM] at hss hsp hsl ⊢
 refine LoopP.intro (α := Nat) (fun i => i <= L.length /\ ∀ r ∈ L.take i, ∀ v ∈ innerL r, L.flatten.count v = 1) (fun i => L.length - i) (fun i => [(3, .sl 1 none none), (24, .sl 0 none none), (25, .s (.i .i64 L.length)), (26, .s (.i .i64 i))])
  (fun i => [(0, some (.nest false 1 (rowsI L) [] [])), (1, some (.flat true 1 (ints M)))]) 2 0 ⟨by omega, by simp⟩ (by refine Weak.bw [(0, some _), (1, some _)] (by ((repeat' first | exact rfl | exact trivial | apply And.intro) <;> (repeat' first | exact rfl | exact trivial | apply And.intro)); all_goals (exact sc_eq (by rw [rowsI_length])))) ?_
 rintro i ⟨hi, hap⟩
 refine Pick.by (fun hc => ?_) (fun hc => ?_)
 ·have hlt : i < L.length := by have := of_decide_eq_true hc; omega
  have hrl := hLr _ (List.getElem_mem hlt)
  have hLi : L[i]? = some L[i] := List.getElem?_eq_getElem hlt
  have hmem : L[i] ∈ L := List.getElem_mem hlt
  obtain ⟨p, hp⟩ : ∃ p, L[i] = p := ⟨_, rfl⟩
  rw [hp] at hrl hLi hmem
  have hnext : (∀ v ∈ innerL p, L.flatten.count v = 1) -> ∀ r ∈ L.take (i + 1), ∀ v ∈ innerL r, L.flatten.count v = 1 := fun h => all_take hlt hap (by rw [hp]; exact h)
  refine Idx.by i rfl (by rw [rowsI_length]; exact hlt) ?_
  refine Pick.T (by simpa [rowsI_length] using hlt) ?_
  refine Look.by _ (rowsI_get hLi) ?_
  refine Pick.by (fun h3 => ?_) (fun h3 => ?_)
  ·have h3 : p.length < 3 := by have := of_decide_eq_true h3; rw [ints_length] at this; omega
   refine Pick.n ?_
   refine Next.by (i + 1) ⟨by omega, hnext fun v hv => ?_⟩ (by omega) (by refine Weak.ba [(0, some _), (1, some _)])
   obtain ⟨j, hj, _⟩ := mem_inner.1 hv
   omega
  have h3 : 3 <= p.length := by have := of_decide_eq_false h3; rw [ints_length] at this; omega
  refine Look.by _ (rowsI_get hLi) ?_
  refine Pick.T (inI64_of (by rw [ints_length]; omega) (by rw [ints_length]; omega)) ?_
  refine Look.by _ (rowsI_get hLi) ?_
  refine Rng.by 1 (p.length - 1) rfl (by rw [ints_length]; omega) (by omega) (by rw [ints_length]; omega) ?_
  refine Look.by _ (rowsI_get hLi) ?_
  refine LoopP.intro (α := Nat) (fun j => j <= p.length - 1 - 1 /\ ∀ v ∈ (innerL p).take j, L.flatten.count v = 1) (fun j => p.length - 1 - 1 - j) (fun j => [(3, .sl 1 none none), (24, .sl 0 none none), (25, .s (.i .i64 L.length)), (26, .s (.i .i64 i)), (37, .sl 0 (some (i, 0)) (some (1, p.length - 1 - 1))), (38, .s (.i .i64 (p.length - 1 - 1 : Nat))), (39, .s (.i .i64 j))])
   (fun j => [(0, some (.nest false 1 (rowsI L) [] [])), (1, some (.flat true 1 (ints M)))]) 2 0 ⟨by omega, by simp⟩ (by refine Weak.bw [(0, some _), (1, some _)] (by ((repeat' first | exact rfl | exact trivial | apply And.intro) <;> (repeat' first | exact rfl | exact trivial | apply And.intro)); all_goals (simp))) ?_
  rintro j ⟨hj, hjp⟩
  refine Pick.by (fun hc2 => ?_) (fun hc2 => ?_)
  ·have hjl : j < p.length - 1 - 1 := by have := of_decide_eq_true hc2; omega
   have hj1 : 1 + j < p.length := by omega
   refine Look.by _ (rowsI_get hLi) ?_
   refine Idx.by j rfl hjl ?_
   refine Look.by _ (rowsI_get hLi) ?_
   refine Look.by _ (ints_get (List.getElem?_eq_getElem hj1)) ?_
   have hil : j < (innerL p).length := by rw [innerL_length]; omega
   have hve : (innerL p)[j] = p[1 + j] := by rw [innerL_get (by omega)]; congr 1; omega
   have hvi : p[1 + j] ∈ innerL p := by rw [<- hve]; exact List.getElem_mem hil
   obtain ⟨v, hv⟩ : ∃ v, p[1 + j] = v := ⟨_, rfl⟩
   rw [hv] at hve hvi ⊢
   have hvp : v ∈ p := by rw [<- hv]; exact List.getElem_mem _
   have hvM : v ∈ M := hsp.mem_iff.2 (List.mem_flatten.2 ⟨p, hmem, hvp⟩)
   have htw := srt_two hss hvM
   have hcn : M.count v = L.flatten.count v := hsp.count_eq v
   rw [hcn] at htw
   have hcl : M.countP (· < v) <= M.length := List.countP_le_length
   refine Call.by _ _ (SearchC_at (x := v) ⟨hss, by omega⟩) ?_
   refine Pick.n ?_
   have hgo : ¬ M[M.countP (· < v) + 1]? = some v -> ∀ u ∈ (innerL p).take (j + 1), L.flatten.count u = 1 := fun h => all_take hil hjp (by rw [hve]; exact Decidable.not_not.1 fun k => h (htw.2 k))
   refine Pick.by (fun h6 => ?_) (fun h6 => ?_)
   ·have h6 : M.countP (· < v) + 1 < M.length := by have := of_decide_eq_true h6; rw [ints_length] at this; omega
    refine Pick.n ?_
    refine Idx.by (M.countP (· < v) + 1) (by omega) (by rw [ints_length]; exact h6) ?_
    refine Look.by _ (ints_get (List.getElem?_eq_getElem h6)) ?_
    refine Pick.by (fun h7 => ?_) (fun h7 => ?_)
    ·have h7 : M[M.countP (· < v) + 1] = v := by simpa using h7
     refine ⟨rfl, ?_⟩
     show Sc.b false = Sc.b (apartB L)
     exact noA fun h => htw.1 (by rw [List.getElem?_eq_getElem h6, h7]) (h p hmem v hvi)
    ·have h7 : ¬ M[M.countP (· < v) + 1] = v := by simpa using h7
     refine Pick.n ?_
     refine Next.by (j + 1) ⟨by omega, hgo (by rw [List.getElem?_eq_getElem h6]; simpa using h7)⟩ (by omega) (by refine Weak.bw [(0, some _), (1, some _)] (by ((repeat' first | exact rfl | exact trivial | apply And.intro) <;> (repeat' first | exact rfl | exact trivial | apply And.intro)); all_goals (simp)))
   ·have h6 : ¬ M.countP (· < v) + 1 < M.length := by have := of_decide_eq_false h6; rw [ints_length] at this; omega
    refine Pick.n ?_
    refine Next.by (j + 1) ⟨by omega, hgo (by rw [List.getElem?_eq_none (by omega)]; simp)⟩ (by omega) (by refine Weak.bw [(0, some _), (1, some _)] (by ((repeat' first | exact rfl | exact trivial | apply And.intro) <;> (repeat' first | exact rfl | exact trivial | apply And.intro)); all_goals (simp)))
  ·have hjg : p.length - 1 - 1 <= j := by have := of_decide_eq_false hc2; omega
   refine Pick.n ?_
   refine Next.by (i + 1) ⟨by omega, hnext ?_⟩ (by omega) (by refine Weak.ba [(0, some _), (1, some _)])
   rw [List.take_of_length_le (by rw [innerL_length]; omega)] at hjp
   exact hjp
 ·have hge : L.length <= i := by have := of_decide_eq_false hc; omega
  rw [List.take_of_length_le hge] at hap
  refine ⟨rfl, ?_⟩
  show Sc.b true = Sc.b (apartB L)
  rw [apartB_iff.2 hap]
noncomputable def SubC : Con := conP 2 (fun a : (Int × List Ed) × (Int × List Int × List (List Int)) => fewL a.2.2.2) (fun a => [grV a.1.1 a.1.2, sbV false a.2.1 a.2.2.1 a.2.2.2]) (fun a => .one (.s (.b (subB a.1.1 a.1.2 a.2.1 a.2.2.1 a.2.2.2))))
theorem SubC_at {n : Int} {E : List Ed} {k : Int} {Ts : List Int} {L : List (List Int)} (h : fewL L) : SubC.F [grV n E, sbV false k Ts L] = some (.one (.s (.b (subB n E k Ts L))), []) :=
 conP_at (a := ((n, E), (k, Ts, L))) (fun a b _ _ h => by
  obtain ⟨⟨n, E⟩, k, Ts, L⟩ := a
  obtain ⟨⟨n', E'⟩, k', Ts', L'⟩ := b
  simp at h
  obtain ⟨h1, h2⟩ := h
  obtain ⟨rfl, rfl⟩ := grV_inj h1
  obtain ⟨rfl, rfl, rfl⟩ := sbV_inj h2
  rfl) h
theorem noS {n : Int} {E : List Ed} {k : Int} {Ts : List Int} {L : List (List Int)} (h : ¬ SubP n E k Ts L) : Sc.b false = Sc.b (subB n E k Ts L) := by rw [subB_no h]
theorem prsT_len {k : Int} (h : k = 1 \/ k = 2) : (prsT k).length = (if k = 1 then 6 else 3) := by rcases h with rfl | rfl <;> rfl
theorem prsT_in {k : Int} (h : k = 1 \/ k = 2) {p : Ed} (hp : p ∈ prsT k) : (0 <= p.1 /\ p.1 < (if k = 1 then 4 else 2)) /\ 0 <= p.2 /\ p.2 < (if k = 1 then 4 else 2) := by
 rcases h with rfl | rfl
 ·revert p; decide
 ·revert p; decide
def IsT (k : Int) (Ts : List Int) (L : List (List Int)) : Prop := (Ts.length : Int) = (if k = 1 then 4 else 2) /\ L.length = (prsT k).length
theorem shape_iff {k : Int} {Ts : List Int} {L : List (List Int)} (h : k = 1 \/ k = 2) : shapeP k Ts L ↔ IsT k Ts L := by
 unfold shapeP IsT
 rw [prsT_len h]
 rcases h with rfl | rfl <;> simp <;> omega
set_option maxHeartbeats 4000000 in
theorem Sub_ok : SoundC Tryz.prog T 23 SubC := by
 refine sound_con (X := { Γ := [(54, TopsC), (57, PathC), (58, ApartC)], T := T, nt := 98, ext := [53] }) (new_ok Tryz.pairs_call) hmix hT (sound_cons Tops_ok (sound_cons Path_ok (sound_cons Apart_ok sound_nil))) Tryz.func23 (by rfl) (by rfl) (by rfl) (by rfl) 5 ?_
 rintro ⟨⟨n, E⟩, k, Ts, L⟩ ⟨hL, hLr⟩
 dsimp only at hL hLr ⊢
 refine two_le ?_
 by_cases hk : k = 1 \/ k = 2
 ·have hpr : Tryz.prsR k = some (2, edges (prsT k)) := if_pos hk
  refine ⟨rfl, _, some (2, edges (prsT k)), rfl, congrArg some hpr, ?_⟩
  have hpl := prsT_len hk
  have hp6 : 0 < (prsT k).length /\ (prsT k).length <= 6 := by rw [hpl]; split <;> omega
  refine Pick.T (by rw [edges_length]; simpa using hp6.1) ?_
  refine Call.by _ _ (TopsC_at k) ?_
  refine Pick.by (fun h1 => ?_) (fun h1 => ?_)
  ·have h1 : ¬ (Ts.length : Int) = (if k = 1 then 4 else 2) := by simpa [ints_length] using h1
   refine Seg.by (by kernel_rfl) ?_
   refine ⟨rfl, ?_⟩
   show Sc.b false = Sc.b (subB n E k Ts L)
   exact noS fun h => h1 ((shape_iff hk).1 h.1).1
  have h1 : (Ts.length : Int) = (if k = 1 then 4 else 2) := by simpa [ints_length] using h1
  refine Seg.by (by kernel_rfl) ?_
  refine Pick.by (fun h2 => ?_) (fun h2 => ?_)
  ·have h2 : ¬ L.length = (prsT k).length := by intro e; rw [rowsI_length, edges_length, e] at h2; simp at h2
   refine ⟨rfl, ?_⟩
   show Sc.b false = Sc.b (subB n E k Ts L)
   exact noS fun h => h2 ((shape_iff hk).1 h.1).2
  have h2 : L.length = (prsT k).length := by
   have h2 : ((L.length : Nat) : Int) = ((prsT k).length : Nat) := by simpa [rowsI_length, edges_length] using h2
   omega
  have hsh : shapeP k Ts L := (shape_iff hk).2 ⟨h1, h2⟩
  refine LoopP.intro (α := Nat) (fun i => i <= L.length /\ ∀ j p, j < i -> L[j]? = some p -> fitP n E k Ts j p) (fun i => L.length - i) (fun i => [(2, .ptr 0 0), (3, .ptr 2 0), (5, .sl 5 none none), (33, .sl 4 none none), (34, .s (.i .i64 L.length)), (35, .s (.i .i64 i))])
   (fun i => [(0, some (.blk [.s (.i .i64 n), .sl 1 none none])), (1, some (.flat false 2 (edges E))), (2, some (.blk [.s (.i .i64 k), .sl 3 none none, .sl 4 none none])), (3, some (.flat false 1 (ints Ts))), (4, some (.nest false 1 (rowsI L) [] [])), (5, some (.flat true 2 (edges (prsT k))))]) 6 0 ⟨by omega, fun j p h => by omega⟩ (by refine Weak.bw [(0, some _), (1, some _), (2, some _), (3, some _), (4, some _), (5, some _)] (by ((repeat' first | exact rfl | exact trivial | apply And.intro) <;> (repeat' first | exact rfl | exact trivial | apply And.intro)); all_goals (exact sc_eq (by rw [rowsI_length])))) ?_
  rintro i ⟨hi, hft⟩
  refine Pick.by (fun hc => ?_) (fun hc => ?_)
  ·have hlt : i < L.length := by have := of_decide_eq_true hc; omega
   have hro : (rowsI L)[i]? = some (ints L[i]) := rowsI_get (List.getElem?_eq_getElem hlt)
   have hrl := hLr _ (List.getElem_mem hlt)
   obtain ⟨p, hp⟩ : ∃ p, L[i] = p := ⟨_, rfl⟩
   have hLi : L[i]? = some p := by rw [List.getElem?_eq_getElem hlt, hp]
   rw [hp] at hro hrl
   have hil : i < (prsT k).length := by omega
   obtain ⟨⟨qa, qb⟩, hq⟩ : ∃ q, (prsT k)[i] = q := ⟨_, rfl⟩
   have hqi := prsT_in hk (List.getElem_mem hil)
   rw [hq] at hqi
   dsimp only at hqi
   rw [<- h1] at hqi
   have hqg : (prsT k).getD i (0, 0) = (qa, qb) := by rw [List.getD_eq_getElem?_getD, List.getElem?_eq_getElem hil, hq]; rfl
   have hqe : (edges (prsT k))[i]? = some [.i .i64 qa, .i .i64 qb] := edges_get (by rw [List.getElem?_eq_getElem hil, hq])
   have hta : Ts[qa.toNat]? = some (Ts.getD qa.toNat 0) := by rw [List.getD_eq_getElem?_getD, List.getElem?_eq_getElem (by omega)]; rfl
   have htb : Ts[qb.toNat]? = some (Ts.getD qb.toNat 0) := by rw [List.getD_eq_getElem?_getD, List.getElem?_eq_getElem (by omega)]; rfl
   refine Idx.by i rfl (by rw [rowsI_length]; exact hlt) ?_
   refine Pick.T (by simpa [rowsI_length] using hlt) ?_
   refine Idx.by i rfl (by rw [edges_length]; exact hil) ?_
   refine Idx.by 0 rfl (by decide) ?_
   refine Look.by _ hqe ?_
   refine Idx.by qa.toNat (by show qa = _; omega) (by rw [ints_length]; omega) ?_
   refine Look.by _ (ints_get hta) ?_
   refine Idx.by i rfl (by rw [edges_length]; exact hil) ?_
   refine Idx.by 1 rfl (by decide) ?_
   refine Look.by _ hqe ?_
   refine Idx.by qb.toNat (by show qb = _; omega) (by rw [ints_length]; omega) ?_
   refine Look.by _ (ints_get htb) ?_
   refine Seg.by (by kernel_rfl) ?_
   refine Look.by _ hro ?_
   refine Call.by _ _ (PathC_at (n := n) (E := E) (l := p) (by omega)) ?_
   refine Pick.by (fun h3 => ?_) (fun h3 => ?_)
   ·have h3 : ¬ PathP n E p := by have h3 : (!pathB n E p) = true := h3; intro h; rw [pathB_iff.2 h] at h3; cases h3
    refine ⟨rfl, ?_⟩
    show Sc.b false = Sc.b (subB n E k Ts L)
    exact noS fun h => h3 (h.2.1 _ _ hLi).1
   have h3 : PathP n E p := by have h3 : (!pathB n E p) = false := h3; exact pathB_iff.1 (by simpa using h3)
   have hpl : 0 < p.length := List.length_pos_iff.2 h3.2.1
   have hp0 : p[0]? = some (p.headD 0) := by cases p with | nil => simp at hpl | cons a l => rfl
   have hpe : p[p.length - 1]? = some (p.getLastD 0) := by rw [List.getLastD_eq_getLast?, List.getLast?_eq_getElem?, List.getElem?_eq_getElem (by omega)]; rfl
   refine Look.by _ hro ?_
   refine Idx.by 0 rfl (by rw [ints_length]; exact hpl) ?_
   refine Look.by _ hro ?_
   refine Look.by _ (ints_get hp0) ?_
   refine Pick.by (fun h4 => ?_) (fun h4 => ?_)
   ·have h4 : p.headD 0 ≠ Ts.getD qa.toNat 0 := by intro e; rw [e] at h4; simp at h4
    refine ⟨rfl, ?_⟩
    show Sc.b false = Sc.b (subB n E k Ts L)
    exact noS fun h => h4 (by have := (h.2.1 _ _ hLi).2.1; rw [hqg] at this; exact this)
   have h4 : p.headD 0 = Ts.getD qa.toNat 0 := by
    have h4 : (!(p.headD 0 == Ts.getD qa.toNat 0)) = false := h4
    simpa only [Bool.not_eq_false', beq_iff_eq] using h4
   refine Look.by _ hro ?_
   refine Pick.T (inI64_of (by rw [ints_length]; omega) (by rw [ints_length]; omega)) ?_
   refine Look.by _ hro ?_
   refine Idx.by (p.length - 1) (by rw [ints_length]; omega) (by rw [ints_length]; omega) ?_
   refine Look.by _ hro ?_
   refine Look.by _ (ints_get hpe) ?_
   refine Pick.by (fun h5 => ?_) (fun h5 => ?_)
   ·have h5 : p.getLastD 0 ≠ Ts.getD qb.toNat 0 := by intro e; rw [e] at h5; simp at h5
    refine ⟨rfl, ?_⟩
    show Sc.b false = Sc.b (subB n E k Ts L)
    exact noS fun h => h5 (by have := (h.2.1 _ _ hLi).2.2.1; rw [hqg] at this; exact this)
   have h5 : p.getLastD 0 = Ts.getD qb.toNat 0 := by
    have h5 : (!(p.getLastD 0 == Ts.getD qb.toNat 0)) = false := h5
    simpa only [Bool.not_eq_false', beq_iff_eq] using h5
   refine Look.by _ hro ?_
   refine Pick.by (fun h6 => ?_) (fun h6 => ?_)
   ·have h6 : p.length < 2 := by have := of_decide_eq_true h6; rw [ints_length] at this; omega
    refine ⟨rfl, ?_⟩
    show Sc.b false = Sc.b (subB n E k Ts L)
    exact noS fun h => (by have := (h.2.1 _ _ hLi).2.2.2; omega)
   have h6 : 2 <= p.length := by have := of_decide_eq_false h6; rw [ints_length] at this; omega
   have hfit : (k = 2 -> 3 <= p.length) -> ∀ j p, j < i + 1 -> L[j]? = some p -> fitP n E k Ts j p := fun h j p' hj hp' => by
    rcases Nat.lt_or_ge j i with hji | hji
    ·exact hft j p' hji hp'
    ·obtain rfl : j = i := by omega
     rw [hLi] at hp'; injection hp' with hp'; subst hp'
     refine ⟨h3, ?_, ?_, ?_⟩
     ·rw [hqg]; exact h4
     ·rw [hqg]; exact h5
     ·rcases hk with rfl | rfl
      ·omega
      ·have := h rfl; omega
   refine Pick.by (fun h7 => ?_) (fun h7 => ?_)
   ·have h7 : k = 2 := by simpa using h7
    refine Look.by _ hro ?_
    refine Pick.by (fun h8 => ?_) (fun h8 => ?_)
    ·have h8 : p.length < 3 := by have := of_decide_eq_true h8; rw [ints_length] at this; omega
     refine ⟨rfl, ?_⟩
     show Sc.b false = Sc.b (subB n E k Ts L)
     exact noS fun h => (by have := (h.2.1 _ _ hLi).2.2.2; omega)
    have h8 : 3 <= p.length := by have := of_decide_eq_false h8; rw [ints_length] at this; omega
    refine Pick.n ?_
    refine Next.by (i + 1) ⟨by omega, hfit fun _ => h8⟩ (by omega) (by refine Weak.ba [(0, some _), (1, some _), (2, some _), (3, some _), (4, some _), (5, some _)])
   ·have h7 : k ≠ 2 := by intro e; rw [e] at h7; simp at h7
    refine Pick.n ?_
    refine Next.by (i + 1) ⟨by omega, hfit fun e => absurd e h7⟩ (by omega) (by refine Weak.ba [(0, some _), (1, some _), (2, some _), (3, some _), (4, some _), (5, some _)])
  ·have hge : L.length <= i := by have := of_decide_eq_false hc; omega
   refine Call.by _ _ (ApartC_at (few_app ⟨hL, hLr⟩)) ?_
   refine ⟨rfl, ?_⟩
   show Sc.b (apartB L) = Sc.b (subB n E k Ts L)
   have hfa : ∀ j p, L[j]? = some p -> fitP n E k Ts j p := fun j p hj => hft j p (by have := (List.getElem?_eq_some_iff.1 hj).1; omega) hj
   congr 1
   rw [Bool.eq_iff_iff, apartB_iff, subB_iff]
   exact ⟨fun h => ⟨hsh, hfa, h⟩, fun h => h.2.2⟩
 ·have hpr : Tryz.prsR k = none := if_neg hk
  refine ⟨rfl, _, none, rfl, congrArg some hpr, ?_⟩
  refine Seg.by (by kernel_rfl) ?_
  refine ⟨rfl, ?_⟩
  show Sc.b false = Sc.b (subB n E k Ts L)
  exact noS fun h => hk (by rcases h.1 with h | h; exact .inl h.1; exact .inr h.1)
noncomputable def ReadC : Con := conP 1 (fun a : Int × List Ed => a.2.length <= 1000000) (fun a => [grV a.1 a.2]) (fun a => .tup [sbV true (readF a.1 a.2).1.1 (readF a.1 a.2).1.2.1 (readF a.1 a.2).1.2.2, .one (.s (.b (readF a.1 a.2).2))])
theorem ReadC_at {n : Int} {E : List Ed} (h : E.length <= 1000000) : ReadC.F [grV n E] = some (.tup [sbV true (readF n E).1.1 (readF n E).1.2.1 (readF n E).1.2.2, .one (.s (.b (readF n E).2))], []) :=
 conP_at (a := (n, E)) (fun x y _ _ h => by
  obtain ⟨n, E⟩ := x
  obtain ⟨n', E'⟩ := y
  simp at h
  obtain ⟨rfl, rfl⟩ := grV_inj h
  rfl) h
def nbK (n : Nat) (E : List Ed) (k : Nat) : List (List Int) := ((List.range k).map fun (v : Nat) => nearL E (v : Int)) ++ List.replicate (n - k) []
theorem nbK_len {n : Nat} {E : List Ed} {k : Nat} (h : k <= n) : (nbK n E k).length = n := by simp [nbK]; omega
theorem nbK_end (n : Nat) (E : List Ed) : nbK n E n = nbrs n E := by simp [nbK, nbrs]
theorem nbK_zero (n : Nat) (E : List Ed) : nbK n E 0 = List.replicate n [] := by simp [nbK]
theorem nbK_set {n : Nat} {E : List Ed} {k : Nat} (h : k < n) : (nbK n E k).set k (nearL E (k : Int)) = nbK n E (k + 1) := by
 apply List.ext_getElem?
 intro i
 unfold nbK
 rw [List.getElem?_set]
 have hl : (((List.range k).map fun (v : Nat) => nearL E (v : Int)) ++ List.replicate (n - k) []).length = n := by simp; omega
 by_cases h1 : k = i
 ·subst h1
  rw [if_pos rfl, if_pos (by rw [hl]; exact h), List.getElem?_append_left (by simp), List.getElem?_map, List.getElem?_range (by omega)]; rfl
 ·rw [if_neg h1]
  by_cases h2 : i < k
  ·rw [List.getElem?_append_left (by simpa using h2), List.getElem?_append_left (by simp; omega), List.getElem?_map, List.getElem?_map, List.getElem?_range h2, List.getElem?_range (by omega)]
  ·rw [List.getElem?_append_right (by simp; omega), List.getElem?_append_right (by simp; omega), List.getElem?_replicate, List.getElem?_replicate]
   simp
   by_cases h3 : i < n
   ·rw [if_pos (by omega), if_pos (by omega)]
   ·rw [if_neg (by omega), if_neg (by omega)]
theorem nb_get {n : Nat} {E : List Ed} {v : Nat} (h : v < n) : (rowsI (nbrs n E))[v]? = some (ints (nearL E (v : Int))) := by
 refine rowsI_get ?_
 unfold nbrs
 rw [List.getElem?_map, List.getElem?_range h]; rfl
theorem keepT_len (n : Int) (E : List Ed) (t : Int) (l : List Int) : (keepT n E t l).length <= l.length := by
 unfold keepT
 exact Nat.le_trans (List.length_filter_le _ _) (by simp)
theorem pathsT_snoc (n : Int) (E : List Ed) (T : List Int) (t : Int) : pathsT n E (T ++ [t]) = pathsT n E T ++ keepT n E t (nearL E t) := by simp [pathsT]
theorem pathsT_len {n : Int} {E : List Ed} : ∀ {T : List Int}, (∀ t ∈ T, (nearL E t).length = 3) -> (pathsT n E T).length <= 3 * T.length
 | [], _ => by simp [pathsT]
 | t :: T, h => by
  have ih := pathsT_len (n := n) (T := T) fun x hx => h x (List.mem_cons_of_mem _ hx)
  have h1 := keepT_len n E t (nearL E t)
  have h2 := h t (by simp)
  unfold pathsT at ih ⊢
  rw [List.flatMap_cons, List.length_append, List.length_cons]
  omega
theorem keepT_row {n : Int} {E : List Ed} (hR : RightP n E) {t : Int} (ht : (nearL E t).length = 3) {l : List Int} (hl : ∀ x ∈ l, x ∈ nearL E t) {p : List Int} (hp : p ∈ keepT n E t l) : 2 <= p.length /\ p.length <= n.toNat + 1 := by
 obtain ⟨⟨x, hx, rfl⟩, _⟩ := mem_keepT.1 hp
 obtain ⟨h1, _, _⟩ := pathT_is hR ht (hl x hx)
 exact ⟨h1.two, h1.len hR⟩
theorem pathsT_row {n : Int} {E : List Ed} (hR : RightP n E) {T : List Int} (hT : ∀ t ∈ T, (nearL E t).length = 3) {p : List Int} (hp : p ∈ pathsT n E T) : 2 <= p.length /\ p.length <= n.toNat + 1 := by
 obtain ⟨t, ht, hp⟩ := List.mem_flatMap.1 hp
 exact keepT_row hR (hT t ht) (fun x hx => hx) hp
theorem usedT_le {m : Nat} : ∀ {L : List (List Int)}, (∀ p ∈ L, p.length <= m + 1) -> usedT L <= L.length * m
 | [], _ => by simp [usedT]
 | p :: L, h => by
  have ih := usedT_le (m := m) (L := L) fun x hx => h x (List.mem_cons_of_mem _ hx)
  have h1 := h p (by simp)
  simp only [usedT, List.map_cons, List.sum_cons, List.length_cons] at ih ⊢
  rw [Nat.succ_mul]
  omega
theorem usedT_snoc (L : List (List Int)) (p : List Int) : usedT (L ++ [p]) = usedT L + (p.length - 1) := by simp [usedT]
set_option maxHeartbeats 4000000 in
theorem Read_ok : SoundC Tryz.prog T 9 ReadC := by
 refine sound_con (X := { Γ := [(25, RightC), (26, NearGC), (23, SubC)], T := T, nt := 149, ext := [27] }) (nestFn_ok SortT_row) hmix hT (sound_cons RightG_ok (sound_cons Near_ok (sound_cons Sub_ok sound_nil))) Tryz.func9 (by rfl) (by rfl) (by rfl) (by rfl) 2 ?_
 rintro ⟨n, E⟩ hl
 dsimp only at hl ⊢
 refine two_le ?_
 refine Call.by _ _ (RightC_at n E) ?_
 refine Pick.by (fun h1 => ?_) (fun h1 => ?_)
 ·have h1 : ¬ RightP n E := by simpa using h1
  have hv := readF_no (n := n) (E := E) (fun h => h1 h.1)
  dsimp only
  rw [hv]
  exact ⟨rfl, rfl, ⟨rfl, ⟨rfl, rfl⟩, ⟨rfl, rfl⟩, trivial⟩, rfl, trivial⟩
 have h1 : RightP n E := by simpa using h1
 obtain ⟨hn0, hn1, hE4, hokE, hsrt⟩ := id h1
 refine Pick.T (by simp) ?_
 refine Idx.by n.toNat (by omega) (by omega) ?_
 refine LoopP.intro (α := Nat) (fun k => k <= n.toNat) (fun k => n.toNat - k) (fun k => [(1, .ptr 0 0), (2, .ptr 2 0), (4, .ptr 3 0), (5, .sl 4 none none), (24, .s (.i .i64 n.toNat)), (25, .s (.i .i64 k))])
  (fun k => [(0, some (.blk [.s (.i .i64 n), .sl 1 none none])), (1, some (.flat false 2 (edges E))), (2, some (.blk [.s (.i .i64 0), .nils, .nils])), (3, some (.blk [.s (.i .i64 0), .nils, .nils])), (4, some (.nest true 1 (rowsI (nbK n.toNat E k)) [] []))]) 5 0 (by omega) (by refine Weak.bw [(0, some _), (1, some _), (2, some _), (3, some _), (4, some _)] (by ((repeat' first | exact rfl | exact trivial | apply And.intro) <;> (repeat' first | exact rfl | exact trivial | apply And.intro)); all_goals ((first | exact sc_eq (by rw [List.length_replicate]) | (rw [nbK_zero]; simp [rowsI, ints]; done))))) ?_
 rintro k hk
 have hkl : (rowsI (nbK n.toNat E k)).length = n.toNat := by rw [rowsI_length, nbK_len hk]
 refine Pick.by (fun hc => ?_) (fun hc => ?_)
 ·have hlt : k < n.toNat := by have := of_decide_eq_true hc; omega
  refine Call.by _ _ (NearGC_at (n := n) (E := E) (k : Int) hl) ?_
  refine Idx.by k rfl (by rw [hkl]; exact hlt) ?_
  refine Pick.T (by rw [hkl]; simpa using hlt) ?_
  refine Pick.n ?_
  have hng : nearG n E (k : Int) = nearL E k := if_pos h1
  refine Next.by (k + 1) (by omega) (by omega) (by refine Weak.bw [(0, some _), (1, some _), (2, some _), (3, some _), (4, some _)] (by ((repeat' first | exact rfl | exact trivial | apply And.intro) <;> (repeat' first | exact rfl | exact trivial | apply And.intro)); all_goals ((rw [<- nbK_set hlt, rowsI_set, hng]))))
 have hge : k = n.toNat := by have := of_decide_eq_false hc; omega
 subst hge
 rw [nbK_end] at hkl ⊢
 refine LoopP.intro (α := Nat) (fun k => k <= n.toNat /\ ∀ v : Nat, v < k -> degOk E v) (fun k => n.toNat - k) (fun k => [(1, .ptr 0 0), (2, .ptr 2 0), (4, .ptr 3 0), (5, .sl 4 none none), (35, .sl 4 none none), (36, .s (.i .i64 n.toNat)), (37, .s (.i .i64 k))])
  (fun k => [(0, some (.blk [.s (.i .i64 n), .sl 1 none none])), (1, some (.flat false 2 (edges E))), (2, some (.blk [.s (.i .i64 0), .nils, .nils])), (3, some (.blk [.s (.i .i64 0), .sl 5 none none, .nils])), (4, some (.nest true 1 (rowsI (nbrs n.toNat E)) [] [])), (5, some (.flat true 1 (ints (topsK E k))))]) 6 0 ⟨by omega, fun v h => by omega⟩ (by refine Weak.bw [(0, some _), (1, some _), (2, some _), (3, some _), (4, some _), (5, none)] (by ((repeat' first | exact rfl | exact trivial | apply And.intro) <;> (repeat' first | exact rfl | exact trivial | apply And.intro)); all_goals ((first | exact sc_eq (by rw [hkl]) | done)))) ?_
 rintro k ⟨hk, hdg⟩
 have htl : (topsK E k).length <= k := by unfold topsK; rw [List.length_map]; exact Nat.le_trans (List.length_filter_le _ _) (by simp)
 refine Pick.by (fun hc => ?_) (fun hc => ?_)
 ·have hlt : k < n.toNat := by have := of_decide_eq_true hc; omega
  have hro := nb_get (E := E) hlt
  have hnl := nearL_length E k
  have hnx : degOk E k -> ∀ v : Nat, v < k + 1 -> degOk E v := fun h v hv => by
   rcases Nat.lt_or_ge v k with h2 | h2
   ·exact hdg v h2
   ·obtain rfl : v = k := by omega
    exact h
  have hst := topsK_succ E k
  refine Idx.by k rfl (by rw [hkl]; exact hlt) ?_
  refine Pick.T (by rw [hkl]; simpa using hlt) ?_
  refine Look.by _ hro ?_
  refine Pick.by (fun h3 => ?_) (fun h3 => ?_)
  ·have h3 : (nearL E (k : Int)).length = 0 := by rw [ints_length] at h3; have := beq_iff_eq.1 h3; omega
   rw [if_neg (by omega), List.append_nil] at hst
   refine Pick.n ?_
   refine Next.by (k + 1) ⟨by omega, hnx (.inl h3)⟩ (by omega) (by refine Weak.bw [(0, some _), (1, some _), (2, some _), (3, some _), (4, some _), (5, some _)] (by ((repeat' first | exact rfl | exact trivial | apply And.intro) <;> (repeat' first | exact rfl | exact trivial | apply And.intro)); all_goals ((rw [hst]))))
  refine Pick.by (fun h4 => ?_) (fun h4 => ?_)
  ·have h4 : (nearL E (k : Int)).length = 2 := by rw [ints_length] at h4; have := beq_iff_eq.1 h4; omega
   rw [if_neg (by omega), List.append_nil] at hst
   refine Pick.n ?_
   refine Next.by (k + 1) ⟨by omega, hnx (.inr (.inl h4))⟩ (by omega) (by refine Weak.bw [(0, some _), (1, some _), (2, some _), (3, some _), (4, some _), (5, some _)] (by ((repeat' first | exact rfl | exact trivial | apply And.intro) <;> (repeat' first | exact rfl | exact trivial | apply And.intro)); all_goals ((rw [hst]))))
  refine Pick.by (fun h5 => ?_) (fun h5 => ?_)
  ·have h5 : (nearL E (k : Int)).length = 3 := by rw [ints_length] at h5; have := beq_iff_eq.1 h5; omega
   rw [if_pos h5] at hst
   refine Pick.T (by simp [cut, ints_length] at htl ⊢; omega) ?_
   refine Pick.n ?_
   refine Next.by (k + 1) ⟨by omega, hnx (.inr (.inr h5))⟩ (by omega) (by refine Weak.bw [(0, some _), (1, some _), (2, some _), (3, some _), (4, some _), (5, some _)] (by ((repeat' first | exact rfl | exact trivial | apply And.intro) <;> (repeat' first | exact rfl | exact trivial | apply And.intro)); all_goals ((rw [hst, ints_snoc]; rfl))))
  ·have hno : ¬ degOk E k := by
    rw [ints_length] at h3 h4 h5
    have h3 := beq_eq_false_iff_ne.1 h3
    have h4 := beq_eq_false_iff_ne.1 h4
    have h5 := beq_eq_false_iff_ne.1 h5
    unfold degOk
    omega
   have hv := readF_no (n := n) (E := E) (fun h => hno (h.2.1 k (by omega)))
   dsimp only
   rw [hv]
   exact ⟨rfl, rfl, ⟨rfl, ⟨rfl, rfl⟩, ⟨rfl, rfl⟩, trivial⟩, rfl, trivial⟩
 have hge : k = n.toNat := by have := of_decide_eq_false hc; omega
 subst hge
 have hdegs : degsOk n E := fun v hv => hdg v (by omega)
 have hTs3 : ∀ t ∈ topsK E n.toNat, 0 <= t /\ t < n /\ (nearL E t).length = 3 := fun t ht => by
  have := mem_topsK.1 ht
  exact ⟨this.1, by omega, this.2.2⟩
 have hTsn : (topsK E n.toNat).Nodup := (topsK_sorted E n.toNat).imp fun h => by omega
 obtain ⟨Ts, hTs⟩ : ∃ Ts, topsK E n.toNat = Ts := ⟨_, rfl⟩
 rw [hTs] at hTs3 hTsn htl ⊢
 have hTd : ∀ t ∈ Ts, (nearL E t).length = 3 := fun t ht => (hTs3 t ht).2.2
 refine Pick.by (fun h4 => ?_) (fun h4 => ?_)
 ·have h4 : Ts.length = 4 := by rw [ints_length] at h4; have := beq_iff_eq.1 h4; omega
  have hkd : kindT Ts = 1 := if_pos h4
  refine LoopP.intro (α := Nat) (fun i => i <= Ts.length) (fun i => Ts.length - i) (fun i => [(1, .ptr 0 0), (2, .ptr 2 0), (4, .ptr 3 0), (5, .sl 4 none none), (9, .s (.i .i64 (usedT (pathsT n E (Ts.take i)) : Nat))), (68, .sl 5 none none), (69, .s (.i .i64 Ts.length)), (70, .s (.i .i64 i))])
   (fun i => [(0, some (.blk [.s (.i .i64 n), .sl 1 none none])), (1, some (.flat false 2 (edges E))), (2, some (.blk [.s (.i .i64 0), .nils, .nils])), (3, some (.blk [.s (.i .i64 1), .sl 5 none none, .sl 6 none none])), (4, some (.nest true 1 (rowsI (nbrs n.toNat E)) [] [])), (5, some (.flat true 1 (ints Ts))), (6, some (.nest true 1 (rowsI (pathsT n E (Ts.take i))) [] []))]) 7 0 (by omega) (by refine Weak.bw [(0, some _), (1, some _), (2, some _), (3, some _), (4, some _), (5, some _), (6, none)] (by ((repeat' first | exact rfl | exact trivial | apply And.intro) <;> (repeat' first | exact rfl | exact trivial | apply And.intro)); all_goals ((first | exact sc_eq (by rw [ints_length]) | done)))) ?_
  rintro i hi
  refine Pick.by (fun hc => ?_) (fun hc => ?_)
  ·have hlt : i < Ts.length := by have := of_decide_eq_true hc; omega
   obtain ⟨t, ht⟩ : ∃ t, Ts[i] = t := ⟨_, rfl⟩
   have htm : t ∈ Ts := by rw [<- ht]; exact List.getElem_mem hlt
   have hti : Ts[i]? = some t := by rw [List.getElem?_eq_getElem hlt, ht]
   obtain ⟨t0, t1, t2⟩ := hTs3 t htm
   have htn := nb_get (n := n.toNat) (E := E) (v := t.toNat) (by omega)
   rw [Int.toNat_of_nonneg t0] at htn
   refine Idx.by i rfl (by rw [ints_length]; exact hlt) ?_
   refine Look.by _ (ints_get hti) ?_
   refine Idx.by t.toNat (by show t = _; omega) (by rw [hkl]; omega) ?_
   refine Pick.T (by rw [hkl]; simp; omega) ?_
   refine Look.by _ htn ?_
   have hk0 : pathsT n E (Ts.take i) ++ keepT n E t ((nearL E t).take 0) = pathsT n E (Ts.take i) := by rw [List.take_zero]; simp [keepT]
   refine LoopP.intro (α := Nat) (fun j => j <= (nearL E t).length) (fun j => (nearL E t).length - j) (fun j => [(1, .ptr 0 0), (2, .ptr 2 0), (4, .ptr 3 0), (5, .sl 4 none none), (9, .s (.i .i64 (usedT (pathsT n E (Ts.take i) ++ keepT n E t ((nearL E t).take j)) : Nat))), (11, .s (.i .i64 t)), (68, .sl 5 none none), (69, .s (.i .i64 Ts.length)), (70, .s (.i .i64 i)), (77, .sl 4 (some (t.toNat, 0)) none), (78, .s (.i .i64 (nearL E t).length)), (79, .s (.i .i64 j))])
    (fun j => [(0, some (.blk [.s (.i .i64 n), .sl 1 none none])), (1, some (.flat false 2 (edges E))), (2, some (.blk [.s (.i .i64 0), .nils, .nils])), (3, some (.blk [.s (.i .i64 1), .sl 5 none none, .sl 6 none none])), (4, some (.nest true 1 (rowsI (nbrs n.toNat E)) [] [])), (5, some (.flat true 1 (ints Ts))), (6, some (.nest true 1 (rowsI (pathsT n E (Ts.take i) ++ keepT n E t ((nearL E t).take j))) [] []))]) 7 0 (by omega) (by refine Weak.bw [(0, some _), (1, some _), (2, some _), (3, some _), (4, some _), (5, some _), (6, some _)] (by ((repeat' first | exact rfl | exact trivial | apply And.intro) <;> (repeat' first | exact rfl | exact trivial | apply And.intro)); all_goals ((first | exact sc_eq (by rw [ints_length]) | exact sc_eq (by rw [hk0]) | (rw [hk0]; done) | (simp; done))))) ?_
   rintro j hj
   refine Pick.by (fun hc2 => ?_) (fun hc2 => ?_)
   ·have hjl : j < (nearL E t).length := by have := of_decide_eq_true hc2; omega
    obtain ⟨x0, hx0⟩ : ∃ x, (nearL E t)[j] = x := ⟨_, rfl⟩
    have hxm : x0 ∈ nearL E t := by rw [<- hx0]; exact List.getElem_mem hjl
    have hxg : (nearL E t)[j]? = some x0 := by rw [List.getElem?_eq_getElem hjl, hx0]
    refine Look.by _ htn ?_
    refine Idx.by j rfl (by rw [ints_length]; exact hjl) ?_
    refine Look.by _ htn ?_
    refine Look.by _ (ints_get hxg) ?_
    refine LoopP.intro (α := List Int) (fun p => FolT n E t p /\ ∃ f, n.toNat + 2 <= f + p.length /\ goT E f p = pathT n E t x0) (fun p => n.toNat + 2 - p.length) (fun p => [(1, .ptr 0 0), (2, .ptr 2 0), (4, .ptr 3 0), (5, .sl 4 none none), (9, .s (.i .i64 (usedT (pathsT n E (Ts.take i) ++ keepT n E t ((nearL E t).take j)) : Nat))), (11, .s (.i .i64 t)), (13, .s (.i .i64 (p.getLastD 0))), (14, .sl 7 none none), (68, .sl 5 none none), (69, .s (.i .i64 Ts.length)), (70, .s (.i .i64 i)), (77, .sl 4 (some (t.toNat, 0)) none), (78, .s (.i .i64 (nearL E t).length)), (79, .s (.i .i64 j))])
     (fun p => [(0, some (.blk [.s (.i .i64 n), .sl 1 none none])), (1, some (.flat false 2 (edges E))), (2, some (.blk [.s (.i .i64 0), .nils, .nils])), (3, some (.blk [.s (.i .i64 1), .sl 5 none none, .sl 6 none none])), (4, some (.nest true 1 (rowsI (nbrs n.toNat E)) [] [])), (5, some (.flat true 1 (ints Ts))), (6, some (.nest true 1 (rowsI (pathsT n E (Ts.take i) ++ keepT n E t ((nearL E t).take j))) [] [])), (7, some (.flat true 1 (ints p)))]) 8 [t, x0] ⟨FolT.start hxm, n.toNat, by simp, rfl⟩ (by refine Weak.bw [(0, some _), (1, some _), (2, some _), (3, some _), (4, some _), (5, some _), (6, some _), (7, some _)] (by ((repeat' first | exact rfl | exact trivial | apply And.intro) <;> (repeat' first | exact rfl | exact trivial | apply And.intro)); all_goals ((first | (simp; done))))) ?_
    rintro p ⟨hF, f, hf, hg⟩
    have hp2 := hF.two
    have hpn := hF.len h1
    obtain ⟨xl, hxl⟩ : ∃ x, p.getLastD 0 = x := ⟨_, rfl⟩
    have hxr : 0 <= xl /\ xl < n := by rw [<- hxl, lastD_get (by omega)]; exact hF.inN h1 _ (by rw [getD_at (by omega)]; exact List.getElem_mem _)
    have hxt := nb_get (n := n.toNat) (E := E) (v := xl.toNat) (by omega)
    rw [Int.toNat_of_nonneg hxr.1] at hxt
    rw [hxl]
    refine Idx.by xl.toNat (by show xl = _; omega) (by rw [hkl]; omega) ?_
    refine Pick.T (by rw [hkl]; simp; omega) ?_
    refine Look.by _ hxt ?_
    refine Pick.by (fun h2 => ?_) (fun h2 => ?_)
    ·have h2 : (nearL E xl).length = 2 := by rw [ints_length] at h2; have := beq_iff_eq.1 h2; omega
     obtain ⟨c, hcc⟩ : ∃ c, (nearL E xl).getD 0 0 = c := ⟨_, rfl⟩
     obtain ⟨d, hdd⟩ : ∃ d, (nearL E xl).getD 1 0 = d := ⟨_, rfl⟩
     obtain ⟨q, hqq⟩ : ∃ q, p.getD (p.length - 2) 0 = q := ⟨_, rfl⟩
     have hcg : (nearL E xl)[0]? = some c := by rw [getD_get (by omega), hcc]
     have hdg2 : (nearL E xl)[1]? = some d := by rw [getD_get (by omega), hdd]
     have hqg : p[p.length - 2]? = some q := by rw [getD_get (by omega), hqq]
     have hcr := (adj_in h1 (mem_nearL.1 (List.mem_of_getElem? hcg))).2
     have hdr := (adj_in h1 (mem_nearL.1 (List.mem_of_getElem? hdg2))).2
     have hqr := hF.inN h1 q (List.mem_of_getElem? hqg)
     have hnx : nxtT E p = c + d - q := by unfold nxtT; rw [hxl, hcc, hdd, hqq]
     refine Idx.by xl.toNat (by show xl = _; omega) (by rw [hkl]; omega) ?_
     refine Pick.T (by rw [hkl]; simp; omega) ?_
     refine Look.by _ hxt ?_
     refine Idx.by 0 rfl (by rw [ints_length]; omega) ?_
     refine Look.by _ hxt ?_
     refine Look.by _ (ints_get hcg) ?_
     refine Idx.by xl.toNat (by show xl = _; omega) (by rw [hkl]; omega) ?_
     refine Pick.T (by rw [hkl]; simp; omega) ?_
     refine Look.by _ hxt ?_
     refine Idx.by 1 rfl (by rw [ints_length]; omega) ?_
     refine Look.by _ hxt ?_
     refine Look.by _ (ints_get hdg2) ?_
     refine Pick.n ?_
     refine Pick.T (inI64_of (by rw [ints_length]; omega) (by rw [ints_length]; omega)) ?_
     refine Idx.by (p.length - 2) (by rw [ints_length]; omega) (by rw [ints_length]; omega) ?_
     refine Look.by _ (ints_get hqg) ?_
     refine Pick.n ?_
     refine Seg.by (by kernel_rfl) ?_
     refine Pick.T (by simp [cut, ints_length]; omega) ?_
     have h2' : (nearL E (p.getLastD 0)).length = 2 := by rw [hxl]; exact h2
     have hlen := hF.len2 h1 (by omega) h2'
     obtain ⟨f', rfl⟩ : ∃ f', f = f' + 1 := ⟨f - 1, by omega⟩
     rw [goT_step h2'] at hg
     have hla : (p ++ [nxtT E p]).getLastD 0 = c + d - q := by rw [List.getLastD_concat, hnx]
     refine Next.by (p ++ [nxtT E p]) ⟨hF.next h1 (by omega) h2', f', by simp; omega, hg⟩ (by simp; omega) (by refine Weak.bw [(0, some _), (1, some _), (2, some _), (3, some _), (4, some _), (5, some _), (6, some _), (7, some _)] (by ((repeat' first | exact rfl | exact trivial | apply And.intro) <;> (repeat' first | exact rfl | exact trivial | apply And.intro)); all_goals ((first | exact sc_eq hla | (rw [hnx, ints_snoc]; rfl) | (simp; done)))))
    ·have h2 : (nearL E xl).length ≠ 2 := by rw [ints_length] at h2; have := beq_eq_false_iff_ne.1 h2; omega
     have hpp : p = pathT n E t x0 := by rw [<- hg, goT_stop (by rw [hxl]; exact h2)]
     have hstk : keepT n E t ((nearL E t).take (j + 1)) = keepT n E t ((nearL E t).take j) ++ (if t < xl then [p] else []) := by
      rw [List.take_succ_eq_append_getElem hjl, hx0, keepT_snoc, <- hpp, hxl]
     have hkl2 := keepT_len n E t ((nearL E t).take j)
     have htk : ((nearL E t).take j).length <= 3 := by rw [List.length_take]; omega
     have hpl := pathsT_len (n := n) (T := Ts.take i) fun y hy => hTd y (List.mem_of_mem_take hy)
     have hti3 : (Ts.take i).length <= 4 := by rw [List.length_take]; omega
     have hall : ∀ r ∈ pathsT n E (Ts.take i) ++ keepT n E t ((nearL E t).take j), r.length <= n.toNat + 1 := fun r hr => by
      rcases List.mem_append.1 hr with hr | hr
      ·exact (pathsT_row h1 (fun y hy => hTd y (List.mem_of_mem_take hy)) hr).2
      ·exact (keepT_row h1 t2 (fun y hy => List.mem_of_mem_take hy) hr).2
     have hul := usedT_le hall
     have hll : (pathsT n E (Ts.take i) ++ keepT n E t ((nearL E t).take j)).length <= 15 := by rw [List.length_append]; omega
     have hub : usedT (pathsT n E (Ts.take i) ++ keepT n E t ((nearL E t).take j)) <= 15000 := Nat.le_trans hul (Nat.le_trans (Nat.mul_le_mul hll (show n.toNat <= 1000 by omega)) (by decide))
     refine Pick.by (fun h3 => ?_) (fun h3 => ?_)
     ·have h3 : ¬ t < xl := by have := of_decide_eq_true h3; omega
      rw [if_neg h3, List.append_nil] at hstk
      refine Pick.n ?_
      refine Next.by (j + 1) (by omega) (by omega) (by refine Weak.bw [(0, some _), (1, some _), (2, some _), (3, some _), (4, some _), (5, some _), (6, some _)] (by ((repeat' first | exact rfl | exact trivial | apply And.intro) <;> (repeat' first | exact rfl | exact trivial | apply And.intro)); all_goals ((first | exact sc_eq (by rw [hstk]) | (rw [hstk]; done) | (rw [hstk]; rfl) | (simp; done)))))
     ·have h3 : t < xl := by have := of_decide_eq_false h3; omega
      rw [if_pos h3] at hstk
      refine Pick.T (decide_eq_true (by rw [rowsI_length]; simp only [List.length_cons, List.length_nil]; omega)) ?_
      have hus : usedT (pathsT n E (Ts.take i) ++ (keepT n E t ((nearL E t).take j) ++ [p])) = usedT (pathsT n E (Ts.take i) ++ keepT n E t ((nearL E t).take j)) + (p.length - 1) := by rw [<- List.append_assoc, usedT_snoc]
      have hil : ((ints p).length : Int) = p.length := by rw [ints_length]
      refine Pick.T (inI64_of (by rw [hil]; omega) (by rw [hil]; omega)) ?_
      refine Pick.T (inI64_of (by rw [hil]; omega) (by rw [hil]; omega)) ?_
      refine Pick.n ?_
      refine Next.by (j + 1) (by omega) (by omega) (by refine Weak.bw [(0, some _), (1, some _), (2, some _), (3, some _), (4, some _), (5, some _), (6, some _)] (by ((repeat' first | exact rfl | exact trivial | apply And.intro) <;> (repeat' first | exact rfl | exact trivial | apply And.intro)); all_goals ((first | exact sc_eq (by rw [hstk, hus, hil]; omega) | (rw [hstk, <- List.append_assoc, rowsI_snoc]; done) | (rw [hstk, <- List.append_assoc, rowsI_snoc]; rfl) | (simp; done)))))
   ·have hjg : (nearL E t).length <= j := by have := of_decide_eq_false hc2; omega
    rw [List.take_of_length_le hjg]
    refine Pick.n ?_
    have hstp : pathsT n E (Ts.take (i + 1)) = pathsT n E (Ts.take i) ++ keepT n E t (nearL E t) := by rw [List.take_succ_eq_append_getElem hlt, ht, pathsT_snoc]
    refine Next.by (i + 1) (by omega) (by omega) (by refine Weak.bw [(0, some _), (1, some _), (2, some _), (3, some _), (4, some _), (5, some _), (6, some _)] (by ((repeat' first | exact rfl | exact trivial | apply And.intro) <;> (repeat' first | exact rfl | exact trivial | apply And.intro)); all_goals ((first | exact sc_eq (by rw [hstp]) | (rw [hstp]; done) | (rw [hstp]; rfl)))))
  ·have hge : Ts.length <= i := by have := of_decide_eq_false hc; omega
   rw [List.take_of_length_le hge]
   have hpl := pathsT_len (n := n) hTd
   have hsn : sortNP goodT cmpT (rowsI (pathsT n E Ts)) := ⟨_, rfl, fun r hr => by have := pathsT_row h1 hTd hr; exact ⟨this.1, by omega⟩, paths_keys h1 hTd hTsn, by omega⟩
   have hsp := sortL_perm cmpT (pathsT n E Ts)
   have hfew : fewL (sortL cmpT (pathsT n E Ts)) := ⟨by rw [hsp.length_eq]; omega, fun r hr => by have := pathsT_row h1 hTd (hsp.mem_iff.1 hr); omega⟩
   refine ⟨rfl, rfl, _, _, rfl, hsn, ?_⟩
   rw [sortN_rows]
   refine Pick.by (fun h6 => ?_) (fun h6 => ?_)
   ·have h6 : usedT (pathsT n E Ts) ≠ E.length := by intro e; rw [edges_length, e] at h6; simp at h6
    have hv := readF_no (n := n) (E := E) (fun h => h6 (by rw [<- hTs]; exact h.2.2.2.1))
    dsimp only
    rw [hv]
    exact ⟨rfl, rfl, ⟨rfl, ⟨rfl, rfl⟩, ⟨rfl, rfl⟩, trivial⟩, rfl, trivial⟩
   have h6 : usedT (pathsT n E Ts) = E.length := by
    have h6 : (!((usedT (pathsT n E Ts) : Int) == ((edges E).length : Nat))) = false := h6
    rw [edges_length] at h6
    have : (usedT (pathsT n E Ts) : Int) = (E.length : Nat) := by simpa only [Bool.not_eq_false', beq_iff_eq] using h6
    omega
   refine Call.by _ _ (SubC_at (n := n) (E := E) (k := 1) (Ts := Ts) hfew) ?_
   refine Pick.by (fun h7 => ?_) (fun h7 => ?_)
   ·have h7 : ¬ SubP n E 1 Ts (sortL cmpT (pathsT n E Ts)) := by
     have h7 : (!subB n E 1 Ts (sortL cmpT (pathsT n E Ts))) = true := h7
     intro h; rw [subB_iff.2 h] at h7; cases h7
    have hv := readF_no (n := n) (E := E) (fun h => h7 (by have := h.2.2.2.2; rw [hTs, hkd] at this; exact this))
    dsimp only
    rw [hv]
    exact ⟨rfl, rfl, ⟨rfl, ⟨rfl, rfl⟩, ⟨rfl, rfl⟩, trivial⟩, rfl, trivial⟩
   ·have h7 : SubP n E 1 Ts (sortL cmpT (pathsT n E Ts)) := by
     have h7 : (!subB n E 1 Ts (sortL cmpT (pathsT n E Ts))) = false := h7
     exact subB_iff.1 (by simpa using h7)
    have hv := readF_yes (n := n) (E := E) ⟨h1, hdegs, by rw [hTs, hkd]; decide, by rw [hTs]; exact h6, by rw [hTs, hkd]; exact h7⟩
    rw [hTs, hkd] at hv
    dsimp only
    rw [hv]
    exact ⟨rfl, rfl, ⟨rfl, ⟨rfl, rfl⟩, ⟨rfl, rfl⟩, trivial⟩, rfl, trivial⟩
 have h4 : Ts.length ≠ 4 := by rw [ints_length] at h4; have := beq_eq_false_iff_ne.1 h4; omega
 refine Pick.by (fun h5 => ?_) (fun h5 => ?_)
 ·have h5 : Ts.length = 2 := by rw [ints_length] at h5; have := beq_iff_eq.1 h5; omega
  have hkd : kindT Ts = 2 := by unfold kindT; rw [if_neg h4, if_pos h5]
  refine LoopP.intro (α := Nat) (fun i => i <= Ts.length) (fun i => Ts.length - i) (fun i => [(1, .ptr 0 0), (2, .ptr 2 0), (4, .ptr 3 0), (5, .sl 4 none none), (9, .s (.i .i64 (usedT (pathsT n E (Ts.take i)) : Nat))), (68, .sl 5 none none), (69, .s (.i .i64 Ts.length)), (70, .s (.i .i64 i))])
   (fun i => [(0, some (.blk [.s (.i .i64 n), .sl 1 none none])), (1, some (.flat false 2 (edges E))), (2, some (.blk [.s (.i .i64 0), .nils, .nils])), (3, some (.blk [.s (.i .i64 2), .sl 5 none none, .sl 6 none none])), (4, some (.nest true 1 (rowsI (nbrs n.toNat E)) [] [])), (5, some (.flat true 1 (ints Ts))), (6, some (.nest true 1 (rowsI (pathsT n E (Ts.take i))) [] []))]) 7 0 (by omega) (by refine Weak.bw [(0, some _), (1, some _), (2, some _), (3, some _), (4, some _), (5, some _), (6, none)] (by ((repeat' first | exact rfl | exact trivial | apply And.intro) <;> (repeat' first | exact rfl | exact trivial | apply And.intro)); all_goals ((first | exact sc_eq (by rw [ints_length]) | done)))) ?_
  rintro i hi
  refine Pick.by (fun hc => ?_) (fun hc => ?_)
  ·have hlt : i < Ts.length := by have := of_decide_eq_true hc; omega
   obtain ⟨t, ht⟩ : ∃ t, Ts[i] = t := ⟨_, rfl⟩
   have htm : t ∈ Ts := by rw [<- ht]; exact List.getElem_mem hlt
   have hti : Ts[i]? = some t := by rw [List.getElem?_eq_getElem hlt, ht]
   obtain ⟨t0, t1, t2⟩ := hTs3 t htm
   have htn := nb_get (n := n.toNat) (E := E) (v := t.toNat) (by omega)
   rw [Int.toNat_of_nonneg t0] at htn
   refine Idx.by i rfl (by rw [ints_length]; exact hlt) ?_
   refine Look.by _ (ints_get hti) ?_
   refine Idx.by t.toNat (by show t = _; omega) (by rw [hkl]; omega) ?_
   refine Pick.T (by rw [hkl]; simp; omega) ?_
   refine Look.by _ htn ?_
   have hk0 : pathsT n E (Ts.take i) ++ keepT n E t ((nearL E t).take 0) = pathsT n E (Ts.take i) := by rw [List.take_zero]; simp [keepT]
   refine LoopP.intro (α := Nat) (fun j => j <= (nearL E t).length) (fun j => (nearL E t).length - j) (fun j => [(1, .ptr 0 0), (2, .ptr 2 0), (4, .ptr 3 0), (5, .sl 4 none none), (9, .s (.i .i64 (usedT (pathsT n E (Ts.take i) ++ keepT n E t ((nearL E t).take j)) : Nat))), (11, .s (.i .i64 t)), (68, .sl 5 none none), (69, .s (.i .i64 Ts.length)), (70, .s (.i .i64 i)), (77, .sl 4 (some (t.toNat, 0)) none), (78, .s (.i .i64 (nearL E t).length)), (79, .s (.i .i64 j))])
    (fun j => [(0, some (.blk [.s (.i .i64 n), .sl 1 none none])), (1, some (.flat false 2 (edges E))), (2, some (.blk [.s (.i .i64 0), .nils, .nils])), (3, some (.blk [.s (.i .i64 2), .sl 5 none none, .sl 6 none none])), (4, some (.nest true 1 (rowsI (nbrs n.toNat E)) [] [])), (5, some (.flat true 1 (ints Ts))), (6, some (.nest true 1 (rowsI (pathsT n E (Ts.take i) ++ keepT n E t ((nearL E t).take j))) [] []))]) 7 0 (by omega) (by refine Weak.bw [(0, some _), (1, some _), (2, some _), (3, some _), (4, some _), (5, some _), (6, some _)] (by ((repeat' first | exact rfl | exact trivial | apply And.intro) <;> (repeat' first | exact rfl | exact trivial | apply And.intro)); all_goals ((first | exact sc_eq (by rw [ints_length]) | exact sc_eq (by rw [hk0]) | (rw [hk0]; done) | (simp; done))))) ?_
   rintro j hj
   refine Pick.by (fun hc2 => ?_) (fun hc2 => ?_)
   ·have hjl : j < (nearL E t).length := by have := of_decide_eq_true hc2; omega
    obtain ⟨x0, hx0⟩ : ∃ x, (nearL E t)[j] = x := ⟨_, rfl⟩
    have hxm : x0 ∈ nearL E t := by rw [<- hx0]; exact List.getElem_mem hjl
    have hxg : (nearL E t)[j]? = some x0 := by rw [List.getElem?_eq_getElem hjl, hx0]
    refine Look.by _ htn ?_
    refine Idx.by j rfl (by rw [ints_length]; exact hjl) ?_
    refine Look.by _ htn ?_
    refine Look.by _ (ints_get hxg) ?_
    refine LoopP.intro (α := List Int) (fun p => FolT n E t p /\ ∃ f, n.toNat + 2 <= f + p.length /\ goT E f p = pathT n E t x0) (fun p => n.toNat + 2 - p.length) (fun p => [(1, .ptr 0 0), (2, .ptr 2 0), (4, .ptr 3 0), (5, .sl 4 none none), (9, .s (.i .i64 (usedT (pathsT n E (Ts.take i) ++ keepT n E t ((nearL E t).take j)) : Nat))), (11, .s (.i .i64 t)), (13, .s (.i .i64 (p.getLastD 0))), (14, .sl 7 none none), (68, .sl 5 none none), (69, .s (.i .i64 Ts.length)), (70, .s (.i .i64 i)), (77, .sl 4 (some (t.toNat, 0)) none), (78, .s (.i .i64 (nearL E t).length)), (79, .s (.i .i64 j))])
     (fun p => [(0, some (.blk [.s (.i .i64 n), .sl 1 none none])), (1, some (.flat false 2 (edges E))), (2, some (.blk [.s (.i .i64 0), .nils, .nils])), (3, some (.blk [.s (.i .i64 2), .sl 5 none none, .sl 6 none none])), (4, some (.nest true 1 (rowsI (nbrs n.toNat E)) [] [])), (5, some (.flat true 1 (ints Ts))), (6, some (.nest true 1 (rowsI (pathsT n E (Ts.take i) ++ keepT n E t ((nearL E t).take j))) [] [])), (7, some (.flat true 1 (ints p)))]) 8 [t, x0] ⟨FolT.start hxm, n.toNat, by simp, rfl⟩ (by refine Weak.bw [(0, some _), (1, some _), (2, some _), (3, some _), (4, some _), (5, some _), (6, some _), (7, some _)] (by ((repeat' first | exact rfl | exact trivial | apply And.intro) <;> (repeat' first | exact rfl | exact trivial | apply And.intro)); all_goals ((first | (simp; done))))) ?_
    rintro p ⟨hF, f, hf, hg⟩
    have hp2 := hF.two
    have hpn := hF.len h1
    obtain ⟨xl, hxl⟩ : ∃ x, p.getLastD 0 = x := ⟨_, rfl⟩
    have hxr : 0 <= xl /\ xl < n := by rw [<- hxl, lastD_get (by omega)]; exact hF.inN h1 _ (by rw [getD_at (by omega)]; exact List.getElem_mem _)
    have hxt := nb_get (n := n.toNat) (E := E) (v := xl.toNat) (by omega)
    rw [Int.toNat_of_nonneg hxr.1] at hxt
    rw [hxl]
    refine Idx.by xl.toNat (by show xl = _; omega) (by rw [hkl]; omega) ?_
    refine Pick.T (by rw [hkl]; simp; omega) ?_
    refine Look.by _ hxt ?_
    refine Pick.by (fun h2 => ?_) (fun h2 => ?_)
    ·have h2 : (nearL E xl).length = 2 := by rw [ints_length] at h2; have := beq_iff_eq.1 h2; omega
     obtain ⟨c, hcc⟩ : ∃ c, (nearL E xl).getD 0 0 = c := ⟨_, rfl⟩
     obtain ⟨d, hdd⟩ : ∃ d, (nearL E xl).getD 1 0 = d := ⟨_, rfl⟩
     obtain ⟨q, hqq⟩ : ∃ q, p.getD (p.length - 2) 0 = q := ⟨_, rfl⟩
     have hcg : (nearL E xl)[0]? = some c := by rw [getD_get (by omega), hcc]
     have hdg2 : (nearL E xl)[1]? = some d := by rw [getD_get (by omega), hdd]
     have hqg : p[p.length - 2]? = some q := by rw [getD_get (by omega), hqq]
     have hcr := (adj_in h1 (mem_nearL.1 (List.mem_of_getElem? hcg))).2
     have hdr := (adj_in h1 (mem_nearL.1 (List.mem_of_getElem? hdg2))).2
     have hqr := hF.inN h1 q (List.mem_of_getElem? hqg)
     have hnx : nxtT E p = c + d - q := by unfold nxtT; rw [hxl, hcc, hdd, hqq]
     refine Idx.by xl.toNat (by show xl = _; omega) (by rw [hkl]; omega) ?_
     refine Pick.T (by rw [hkl]; simp; omega) ?_
     refine Look.by _ hxt ?_
     refine Idx.by 0 rfl (by rw [ints_length]; omega) ?_
     refine Look.by _ hxt ?_
     refine Look.by _ (ints_get hcg) ?_
     refine Idx.by xl.toNat (by show xl = _; omega) (by rw [hkl]; omega) ?_
     refine Pick.T (by rw [hkl]; simp; omega) ?_
     refine Look.by _ hxt ?_
     refine Idx.by 1 rfl (by rw [ints_length]; omega) ?_
     refine Look.by _ hxt ?_
     refine Look.by _ (ints_get hdg2) ?_
     refine Pick.n ?_
     refine Pick.T (inI64_of (by rw [ints_length]; omega) (by rw [ints_length]; omega)) ?_
     refine Idx.by (p.length - 2) (by rw [ints_length]; omega) (by rw [ints_length]; omega) ?_
     refine Look.by _ (ints_get hqg) ?_
     refine Pick.n ?_
     refine Seg.by (by kernel_rfl) ?_
     refine Pick.T (by simp [cut, ints_length]; omega) ?_
     have h2' : (nearL E (p.getLastD 0)).length = 2 := by rw [hxl]; exact h2
     have hlen := hF.len2 h1 (by omega) h2'
     obtain ⟨f', rfl⟩ : ∃ f', f = f' + 1 := ⟨f - 1, by omega⟩
     rw [goT_step h2'] at hg
     have hla : (p ++ [nxtT E p]).getLastD 0 = c + d - q := by rw [List.getLastD_concat, hnx]
     refine Next.by (p ++ [nxtT E p]) ⟨hF.next h1 (by omega) h2', f', by simp; omega, hg⟩ (by simp; omega) (by refine Weak.bw [(0, some _), (1, some _), (2, some _), (3, some _), (4, some _), (5, some _), (6, some _), (7, some _)] (by ((repeat' first | exact rfl | exact trivial | apply And.intro) <;> (repeat' first | exact rfl | exact trivial | apply And.intro)); all_goals ((first | exact sc_eq hla | (rw [hnx, ints_snoc]; rfl) | (simp; done)))))
    ·have h2 : (nearL E xl).length ≠ 2 := by rw [ints_length] at h2; have := beq_eq_false_iff_ne.1 h2; omega
     have hpp : p = pathT n E t x0 := by rw [<- hg, goT_stop (by rw [hxl]; exact h2)]
     have hstk : keepT n E t ((nearL E t).take (j + 1)) = keepT n E t ((nearL E t).take j) ++ (if t < xl then [p] else []) := by
      rw [List.take_succ_eq_append_getElem hjl, hx0, keepT_snoc, <- hpp, hxl]
     have hkl2 := keepT_len n E t ((nearL E t).take j)
     have htk : ((nearL E t).take j).length <= 3 := by rw [List.length_take]; omega
     have hpl := pathsT_len (n := n) (T := Ts.take i) fun y hy => hTd y (List.mem_of_mem_take hy)
     have hti3 : (Ts.take i).length <= 4 := by rw [List.length_take]; omega
     have hall : ∀ r ∈ pathsT n E (Ts.take i) ++ keepT n E t ((nearL E t).take j), r.length <= n.toNat + 1 := fun r hr => by
      rcases List.mem_append.1 hr with hr | hr
      ·exact (pathsT_row h1 (fun y hy => hTd y (List.mem_of_mem_take hy)) hr).2
      ·exact (keepT_row h1 t2 (fun y hy => List.mem_of_mem_take hy) hr).2
     have hul := usedT_le hall
     have hll : (pathsT n E (Ts.take i) ++ keepT n E t ((nearL E t).take j)).length <= 15 := by rw [List.length_append]; omega
     have hub : usedT (pathsT n E (Ts.take i) ++ keepT n E t ((nearL E t).take j)) <= 15000 := Nat.le_trans hul (Nat.le_trans (Nat.mul_le_mul hll (show n.toNat <= 1000 by omega)) (by decide))
     refine Pick.by (fun h3 => ?_) (fun h3 => ?_)
     ·have h3 : ¬ t < xl := by have := of_decide_eq_true h3; omega
      rw [if_neg h3, List.append_nil] at hstk
      refine Pick.n ?_
      refine Next.by (j + 1) (by omega) (by omega) (by refine Weak.bw [(0, some _), (1, some _), (2, some _), (3, some _), (4, some _), (5, some _), (6, some _)] (by ((repeat' first | exact rfl | exact trivial | apply And.intro) <;> (repeat' first | exact rfl | exact trivial | apply And.intro)); all_goals ((first | exact sc_eq (by rw [hstk]) | (rw [hstk]; done) | (rw [hstk]; rfl) | (simp; done)))))
     ·have h3 : t < xl := by have := of_decide_eq_false h3; omega
      rw [if_pos h3] at hstk
      refine Pick.T (decide_eq_true (by rw [rowsI_length]; simp only [List.length_cons, List.length_nil]; omega)) ?_
      have hus : usedT (pathsT n E (Ts.take i) ++ (keepT n E t ((nearL E t).take j) ++ [p])) = usedT (pathsT n E (Ts.take i) ++ keepT n E t ((nearL E t).take j)) + (p.length - 1) := by rw [<- List.append_assoc, usedT_snoc]
      have hil : ((ints p).length : Int) = p.length := by rw [ints_length]
      refine Pick.T (inI64_of (by rw [hil]; omega) (by rw [hil]; omega)) ?_
      refine Pick.T (inI64_of (by rw [hil]; omega) (by rw [hil]; omega)) ?_
      refine Pick.n ?_
      refine Next.by (j + 1) (by omega) (by omega) (by refine Weak.bw [(0, some _), (1, some _), (2, some _), (3, some _), (4, some _), (5, some _), (6, some _)] (by ((repeat' first | exact rfl | exact trivial | apply And.intro) <;> (repeat' first | exact rfl | exact trivial | apply And.intro)); all_goals ((first | exact sc_eq (by rw [hstk, hus, hil]; omega) | (rw [hstk, <- List.append_assoc, rowsI_snoc]; done) | (rw [hstk, <- List.append_assoc, rowsI_snoc]; rfl) | (simp; done)))))
   ·have hjg : (nearL E t).length <= j := by have := of_decide_eq_false hc2; omega
    rw [List.take_of_length_le hjg]
    refine Pick.n ?_
    have hstp : pathsT n E (Ts.take (i + 1)) = pathsT n E (Ts.take i) ++ keepT n E t (nearL E t) := by rw [List.take_succ_eq_append_getElem hlt, ht, pathsT_snoc]
    refine Next.by (i + 1) (by omega) (by omega) (by refine Weak.bw [(0, some _), (1, some _), (2, some _), (3, some _), (4, some _), (5, some _), (6, some _)] (by ((repeat' first | exact rfl | exact trivial | apply And.intro) <;> (repeat' first | exact rfl | exact trivial | apply And.intro)); all_goals ((first | exact sc_eq (by rw [hstp]) | (rw [hstp]; done) | (rw [hstp]; rfl)))))
  ·have hge : Ts.length <= i := by have := of_decide_eq_false hc; omega
   rw [List.take_of_length_le hge]
   have hpl := pathsT_len (n := n) hTd
   have hsn : sortNP goodT cmpT (rowsI (pathsT n E Ts)) := ⟨_, rfl, fun r hr => by have := pathsT_row h1 hTd hr; exact ⟨this.1, by omega⟩, paths_keys h1 hTd hTsn, by omega⟩
   have hsp := sortL_perm cmpT (pathsT n E Ts)
   have hfew : fewL (sortL cmpT (pathsT n E Ts)) := ⟨by rw [hsp.length_eq]; omega, fun r hr => by have := pathsT_row h1 hTd (hsp.mem_iff.1 hr); omega⟩
   refine ⟨rfl, rfl, _, _, rfl, hsn, ?_⟩
   rw [sortN_rows]
   refine Pick.by (fun h6 => ?_) (fun h6 => ?_)
   ·have h6 : usedT (pathsT n E Ts) ≠ E.length := by intro e; rw [edges_length, e] at h6; simp at h6
    have hv := readF_no (n := n) (E := E) (fun h => h6 (by rw [<- hTs]; exact h.2.2.2.1))
    dsimp only
    rw [hv]
    exact ⟨rfl, rfl, ⟨rfl, ⟨rfl, rfl⟩, ⟨rfl, rfl⟩, trivial⟩, rfl, trivial⟩
   have h6 : usedT (pathsT n E Ts) = E.length := by
    have h6 : (!((usedT (pathsT n E Ts) : Int) == ((edges E).length : Nat))) = false := h6
    rw [edges_length] at h6
    have : (usedT (pathsT n E Ts) : Int) = (E.length : Nat) := by simpa only [Bool.not_eq_false', beq_iff_eq] using h6
    omega
   refine Call.by _ _ (SubC_at (n := n) (E := E) (k := 2) (Ts := Ts) hfew) ?_
   refine Pick.by (fun h7 => ?_) (fun h7 => ?_)
   ·have h7 : ¬ SubP n E 2 Ts (sortL cmpT (pathsT n E Ts)) := by
     have h7 : (!subB n E 2 Ts (sortL cmpT (pathsT n E Ts))) = true := h7
     intro h; rw [subB_iff.2 h] at h7; cases h7
    have hv := readF_no (n := n) (E := E) (fun h => h7 (by have := h.2.2.2.2; rw [hTs, hkd] at this; exact this))
    dsimp only
    rw [hv]
    exact ⟨rfl, rfl, ⟨rfl, ⟨rfl, rfl⟩, ⟨rfl, rfl⟩, trivial⟩, rfl, trivial⟩
   ·have h7 : SubP n E 2 Ts (sortL cmpT (pathsT n E Ts)) := by
     have h7 : (!subB n E 2 Ts (sortL cmpT (pathsT n E Ts))) = false := h7
     exact subB_iff.1 (by simpa using h7)
    have hv := readF_yes (n := n) (E := E) ⟨h1, hdegs, by rw [hTs, hkd]; decide, by rw [hTs]; exact h6, by rw [hTs, hkd]; exact h7⟩
    rw [hTs, hkd] at hv
    dsimp only
    rw [hv]
    exact ⟨rfl, rfl, ⟨rfl, ⟨rfl, rfl⟩, ⟨rfl, rfl⟩, trivial⟩, rfl, trivial⟩
 ·have h5 : Ts.length ≠ 2 := by rw [ints_length] at h5; have := beq_eq_false_iff_ne.1 h5; omega
  have hv := readF_no (n := n) (E := E) (fun h => h.2.2.1 (by rw [hTs]; unfold kindT; rw [if_neg h4, if_neg h5]))
  dsimp only
  rw [hv]
  exact ⟨rfl, rfl, ⟨rfl, ⟨rfl, rfl⟩, ⟨rfl, rfl⟩, trivial⟩, rfl, trivial⟩
def i64 (x : Int) : Prop := -9223372036854775808 <= x /\ x <= 9223372036854775807
end Go.Sh
namespace Go.Sh
abbrev Add := Int × Int × Int
def keyP (a b : Int) (e : Add) : Prop := (a = e.1 /\ b = e.2.1) \/ (a = e.2.1 /\ b = e.1)
instance (a b : Int) (e : Add) : Decidable (keyP a b e) := by unfold keyP; infer_instance
theorem keyP_symm {a b : Int} {e : Add} : keyP a b e ↔ keyP b a e := by unfold keyP; constructor <;> rintro (⟨h, k⟩ | ⟨h, k⟩) <;> first | exact .inr ⟨k, h⟩ | exact .inl ⟨k, h⟩
def pth : List Add -> Int -> Int -> List Int
 | [], _, _ => []
 | e :: r, a, b => if keyP a b e then pth r a e.2.2 ++ e.2.2 :: pth r e.2.2 b else pth r a b
def inKeys (r : List Add) (a b : Int) : Prop := ∃ e ∈ r, keyP a b e
instance (r : List Add) (a b : Int) : Decidable (inKeys r a b) := by unfold inKeys; infer_instance
def vsL (r : List Add) : List Int := r.map fun e => e.2.2
def AddOk (e : Add) (r : List Add) : Prop := e.1 < e.2.1 /\ e.2.2 ≠ e.1 /\ e.2.2 ≠ e.2.1 /\ e.1 ∉ vsL r /\ e.2.1 ∉ vsL r /\ e.2.2 ∉ vsL r /\ ¬ inKeys r e.1 e.2.1
def Val : List Add -> Prop
 | [] => True
 | e :: r => AddOk e r /\ Val r
theorem inKeys_symm {r : List Add} {a b : Int} : inKeys r a b ↔ inKeys r b a := by
 unfold inKeys
 exact ⟨fun ⟨e, h, k⟩ => ⟨e, h, keyP_symm.1 k⟩, fun ⟨e, h, k⟩ => ⟨e, h, keyP_symm.1 k⟩⟩
theorem pth_pos {e : Add} {r : List Add} {a b : Int} (h : keyP a b e) : pth (e :: r) a b = pth r a e.2.2 ++ e.2.2 :: pth r e.2.2 b := if_pos h
theorem pth_neg {e : Add} {r : List Add} {a b : Int} (h : ¬ keyP a b e) : pth (e :: r) a b = pth r a b := if_neg h
theorem pth_mem : ∀ {r : List Add} {a b x : Int}, x ∈ pth r a b -> x ∈ vsL r := by
 intro r
 induction r with
 | nil => intro a b x h; simp [pth] at h
 | cons e r ih =>
  intro a b x h
  by_cases hk : keyP a b e
  ·rw [pth_pos hk, List.mem_append, List.mem_cons] at h
   rcases h with h | h | h
   ·exact List.mem_cons_of_mem _ (ih h)
   ·rw [h]; exact List.mem_cons_self
   ·exact List.mem_cons_of_mem _ (ih h)
  ·rw [pth_neg hk] at h
   exact List.mem_cons_of_mem _ (ih h)
def sameP (a b c d : Int) : Prop := (a = c /\ b = d) \/ (a = d /\ b = c)
theorem pth_apart : ∀ {r : List Add} {a b c d x : Int}, Val r -> a ∉ vsL r -> b ∉ vsL r -> c ∉ vsL r -> d ∉ vsL r -> ¬ sameP a b c d -> x ∈ pth r a b -> x ∉ pth r c d := by
 intro r
 induction r with
 | nil => intro a b c d x _ _ _ _ _ _ h; simp [pth] at h
 | cons e r ih =>
  intro a b c d x hv ha hb hc hd hs hx hy
  obtain ⟨⟨v1, v2, v3, v4, v5, v6, v7⟩, hv⟩ := hv
  have sub : ∀ {y : Int}, y ∉ vsL (e :: r) -> y ∉ vsL r /\ y ≠ e.2.2 := fun {y} h => ⟨fun k => h (List.mem_cons_of_mem _ k), fun k => h (by rw [k]; exact List.mem_cons_self)⟩
  obtain ⟨a1, a2⟩ := sub ha
  obtain ⟨b1, b2⟩ := sub hb
  obtain ⟨c1, c2⟩ := sub hc
  obtain ⟨d1, d2⟩ := sub hd
  by_cases hk : keyP a b e
  ·by_cases hk2 : keyP c d e
   ·refine hs ?_
    unfold keyP at hk hk2
    unfold sameP
    omega
   ·rw [pth_neg hk2] at hy
    rw [pth_pos hk, List.mem_append, List.mem_cons] at hx
    rcases hx with hx | hx | hx
    ·exact ih hv a1 v6 c1 d1 (by unfold sameP; omega) hx hy
    ·rw [hx] at hy; exact v6 (pth_mem hy)
    ·exact ih hv v6 b1 c1 d1 (by unfold sameP; omega) hx hy
  ·rw [pth_neg hk] at hx
   by_cases hk2 : keyP c d e
   ·rw [pth_pos hk2, List.mem_append, List.mem_cons] at hy
    rcases hy with hy | hy | hy
    ·exact ih hv c1 v6 a1 b1 (by unfold sameP; omega) hy hx
    ·rw [hy] at hx; exact v6 (pth_mem hx)
    ·exact ih hv v6 d1 a1 b1 (by unfold sameP; omega) hy hx
   ·rw [pth_neg hk2] at hy
    exact ih hv a1 b1 c1 d1 hs hx hy
theorem pth_nodup : ∀ {r : List Add} {a b : Int}, Val r -> (pth r a b).Nodup := by
 intro r
 induction r with
 | nil => intro a b _; simp [pth]
 | cons e r ih =>
  intro a b hv
  obtain ⟨⟨v1, v2, v3, v4, v5, v6, v7⟩, hv⟩ := hv
  by_cases hk : keyP a b e
  ·rw [pth_pos hk, List.nodup_append]
   have hab : a ≠ b /\ a ≠ e.2.2 /\ b ≠ e.2.2 := by unfold keyP at hk; omega
   have ha : a ∉ vsL r := by rcases hk with ⟨h, _⟩ | ⟨h, _⟩ <;> rw [h] <;> assumption
   have hb : b ∉ vsL r := by rcases hk with ⟨_, h⟩ | ⟨_, h⟩ <;> rw [h] <;> assumption
   refine ⟨ih hv, List.nodup_cons.2 ⟨fun h => v6 (pth_mem h), ih hv⟩, fun x hx y hy => ?_⟩
   rintro rfl
   rcases List.mem_cons.1 hy with hy | hy
   ·rw [hy] at hx; exact v6 (pth_mem hx)
   ·exact pth_apart hv ha v6 v6 hb (by unfold sameP; omega) hx hy
  ·rw [pth_neg hk]; exact ih hv
theorem Val.lt {r : List Add} (h : Val r) : ∀ e ∈ r, e.1 < e.2.1 := by
 induction r with
 | nil => intro e h; simp at h
 | cons e0 r ih =>
  intro e he
  rcases List.mem_cons.1 he with rfl | he
  ·exact h.1.1
  ·exact ih h.2 e he
theorem Val.before {e : Add} {r : List Add} : ∀ {pre : List Add}, Val (pre ++ e :: r) -> ∀ e' ∈ pre, e'.1 ≠ e.2.2 /\ e'.2.1 ≠ e.2.2 := by
 intro pre
 induction pre with
 | nil => intro _ e' h; simp at h
 | cons e0 pre ih =>
  intro h e' he
  have hmem : e.2.2 ∈ vsL (pre ++ e :: r) := by unfold vsL; exact List.mem_map.2 ⟨e, by simp, rfl⟩
  rcases List.mem_cons.1 he with rfl | he
  ·exact ⟨fun k => h.1.2.2.2.1 (k ▸ hmem), fun k => h.1.2.2.2.2.1 (k ▸ hmem)⟩
  ·exact ih h.2 e' he
end Go.Sh
namespace Go.Sh
def addStep (r : List Add) (s : Stp) : List Add := if s.2.2.2 = true then (s.2.1, s.2.2.1, s.1) :: r else r
def addsL (l : List Stp) : List Add := l.foldl addStep []
structure ExpI (E : List Ed) (N : List (List Int)) (G : List Bool) (r : List Add) : Prop where
 wf : Wf N G
 val : Val r
 rng : ∀ e ∈ r, (0 <= e.1 /\ e.1 < N.length) /\ (0 <= e.2.1 /\ e.2.1 < N.length) /\ (0 <= e.2.2 /\ e.2.2 < N.length)
 gone : ∀ v ∈ vsL r, goneAt G v = true
 cur : ∀ a b, 0 <= a -> b ∈ rowAt N a -> adjE E a b \/ inKeys r a b
 key : ∀ e ∈ r, goneAt G e.1 = true \/ goneAt G e.2.1 = true \/ e.2.1 ∈ rowAt N e.1
 org : ∀ p ∈ E, goneAt G p.1 = true \/ goneAt G p.2 = true \/ p.2 ∈ rowAt N p.1
 exc : ∀ e ∈ r, (e.1, e.2.1) ∉ E
 ends : ∀ p ∈ E, 0 <= p.1 /\ p.1 < p.2 /\ p.2 < N.length
theorem goneAt_do {N : List (List Int)} {G : List Bool} (h : Wf N G) {s : Stp} (hm : MayP N G s.1) {u : Int} (hu : 0 <= u) : goneAt (doG G s) u = if u = s.1 then true else goneAt G u := by
 unfold doG
 exact goneAt_set hm.lo (by rw [h.len]; exact hm.hi) hu
theorem keep_do {N : List (List Int)} {G : List Bool} (h : Wf N G) {s : Stp} (hm : MayP N G s.1) (hs : stepF N s.1 = s) {a b : Int} (ha : 0 <= a) (hb : 0 <= b) (hk : goneAt G a = true \/ goneAt G b = true \/ b ∈ rowAt N a) :
  goneAt (doG G s) a = true \/ goneAt (doG G s) b = true \/ b ∈ rowAt (doN N s) a := by
 rw [goneAt_do h hm ha, goneAt_do h hm hb]
 by_cases h1 : a = s.1
 ·exact .inl (if_pos h1)
 by_cases h2 : b = s.1
 ·exact .inr (.inl (if_pos h2))
 rw [if_neg h1, if_neg h2]
 rcases hk with h3 | h3 | h3
 ·exact .inl h3
 ·exact .inr (.inl h3)
 ·have := (do_row h hm ha).2 b
  rw [hs] at this
  exact .inr (.inr (this.2 ⟨h1, .inl ⟨h3, h2⟩⟩))
theorem added_fact {E : List Ed} {N : List (List Int)} {G : List Bool} {r : List Add} (h : ExpI E N G r) {s : Stp} (hm : mayStp N G s = true) (ha : s.2.2.2 = true) :
  rowAt N s.1 = [s.2.1, s.2.2.1] /\ s.2.1 < s.2.2.1 /\ AddOk (s.2.1, s.2.2.1, s.1) r /\ (0 <= s.2.1 /\ s.2.1 < N.length) /\ (0 <= s.2.2.1 /\ s.2.2.1 < N.length) /\ (0 <= s.1 /\ s.1 < N.length) /\ ¬ adjE E s.2.1 s.2.2.1 /\ (adjE E s.2.1 s.1 \/ inKeys r s.2.1 s.1) /\ (adjE E s.1 s.2.2.1 \/ inKeys r s.1 s.2.2.1) := by
 unfold mayStp at hm
 simp only [Bool.and_eq_true, decide_eq_true_eq] at hm
 have hp := mayB_iff.1 hm.1
 obtain ⟨_, hc⟩ := step_two h.wf hp hm.2.symm
 rcases hc with ⟨_, _, _, e⟩ | ⟨_, _, _, _, e⟩ | ⟨a, b, hl, hab, ea, eb, ec⟩
 ·rw [ha] at e; cases e
 ·rw [ha] at e; cases e
 rw [ha] at ec
 have hnb : b ∉ rowAt N a := fun hin => by
  have : (rowAt N a).elem b = true := by simpa using hin
  rw [this] at ec; cases ec
 have hrv := h.wf.rows s.1
 have hra := hrv.2 a (by rw [hl]; simp)
 have hrb := hrv.2 b (by rw [hl]; simp)
 have hva : s.1 ≠ a := fun e => h.wf.irr s.1 hp.lo (by rw [hl, <- e]; simp)
 have hvb : s.1 ≠ b := fun e => h.wf.irr s.1 hp.lo (by rw [hl, <- e]; simp)
 have sa := h.wf.sym s.1 a hp.lo hra.1 (by rw [hl]; simp)
 have sb := h.wf.sym s.1 b hp.lo hrb.1 (by rw [hl]; simp)
 have ga : goneAt G a ≠ true := fun k => by rw [h.wf.gone a hra.1 k] at sa; simp at sa
 have gb : goneAt G b ≠ true := fun k => by rw [h.wf.gone b hrb.1 k] at sb; simp at sb
 have gv : goneAt G s.1 ≠ true := by rw [hp.there]; simp
 rw [ea, eb]
 have hno : ∀ e ∈ r, ¬ keyP a b e := fun e he k => by
  have hlt := h.val.lt e he
  unfold keyP at k
  have e1 : a = e.1 /\ b = e.2.1 := by omega
  have := h.key e he
  rw [<- e1.1, <- e1.2] at this
  rcases this with k | k | k
  ·exact ga k
  ·exact gb k
  ·exact hnb k
 have hnE : ¬ adjE E a b := fun k => by
  rcases k with k | k
  ·rcases h.org _ k with k | k | k
   ·exact ga k
   ·exact gb k
   ·exact hnb k
  ·have := h.ends _ k; dsimp only at this; omega
 refine ⟨hl, hab, ⟨hab, hva, hvb, fun k => ga (h.gone _ k), fun k => gb (h.gone _ k), fun k => gv (h.gone _ k), fun ⟨e, he, k⟩ => hno e he k⟩, hra, hrb, ⟨hp.lo, hp.hi⟩, hnE, h.cur a s.1 hra.1 sa, h.cur s.1 b hp.lo (by rw [hl]; simp)⟩
theorem ExpI.step {E : List Ed} {N : List (List Int)} {G : List Bool} {r : List Add} (h : ExpI E N G r) {s : Stp} (hm : mayStp N G s = true) : ExpI E (doN N s) (doG G s) (addStep r s) := by
 have hm' := hm
 unfold mayStp at hm'
 simp only [Bool.and_eq_true, decide_eq_true_eq] at hm'
 have hp := mayB_iff.1 hm'.1
 have hs := hm'.2
 have hwf := do_wf h.wf hp
 rw [hs] at hwf
 have hlen := doN_length N s
 have row : ∀ u, 0 <= u -> ∀ y, y ∈ rowAt (doN N s) u ↔ u ≠ s.1 /\ ((y ∈ rowAt N u /\ y ≠ s.1) \/ (s.2.2.2 = true /\ ((u = s.2.1 /\ y = s.2.2.1) \/ (u = s.2.2.1 /\ y = s.2.1)))) := fun u hu y => by
  have := (do_row h.wf hp hu).2 y
  rw [hs] at this
  exact this
 have gone0 : ∀ v ∈ vsL r, goneAt (doG G s) v = true := fun v hv => by
  obtain ⟨e, he, rfl⟩ := List.mem_map.1 hv
  rw [goneAt_do h.wf hp (h.rng e he).2.2.1]
  split
  ·rfl
  ·exact h.gone _ hv
 have key0 : ∀ e ∈ r, goneAt (doG G s) e.1 = true \/ goneAt (doG G s) e.2.1 = true \/ e.2.1 ∈ rowAt (doN N s) e.1 := fun e he => keep_do h.wf hp hs (h.rng e he).1.1 (h.rng e he).2.1.1 (h.key e he)
 have org0 : ∀ p ∈ E, goneAt (doG G s) p.1 = true \/ goneAt (doG G s) p.2 = true \/ p.2 ∈ rowAt (doN N s) p.1 := fun p hp' => by
  have := h.ends p hp'
  exact keep_do h.wf hp hs this.1 (by omega) (h.org p hp')
 by_cases ha : s.2.2.2 = true
 ·obtain ⟨hl, hab, hok, r1, r2, r3, hnE, _, _⟩ := added_fact h hm ha
  have e0 : addStep r s = (s.2.1, s.2.2.1, s.1) :: r := if_pos ha
  rw [e0]
  refine ⟨hwf, ⟨hok, h.val⟩, fun e he => ?_, fun v hv => ?_, fun a b h0 hb => ?_, fun e he => ?_, org0, fun e he => ?_, by rw [hlen]; exact h.ends⟩
  ·rw [hlen]
   rcases List.mem_cons.1 he with rfl | he
   ·exact ⟨r1, r2, r3⟩
   ·exact h.rng e he
  ·rcases List.mem_cons.1 hv with rfl | hv
   ·rw [goneAt_do h.wf hp r3.1, if_pos rfl]
   ·exact gone0 v hv
  ·rcases (row a h0 b).1 hb with ⟨_, ⟨k, _⟩ | ⟨_, k⟩⟩
   ·exact (h.cur a b h0 k).imp id fun ⟨e, he, k⟩ => ⟨e, List.mem_cons_of_mem _ he, k⟩
   ·exact .inr ⟨_, List.mem_cons_self, k⟩
  ·rcases List.mem_cons.1 he with rfl | he
   ·exact .inr (.inr ((row _ r1.1 _).2 ⟨hok.2.1.symm, .inr ⟨ha, .inl ⟨rfl, rfl⟩⟩⟩))
   ·exact key0 e he
  ·rcases List.mem_cons.1 he with rfl | he
   ·exact fun k => hnE (.inl k)
   ·exact h.exc e he
 ·have e0 : addStep r s = r := if_neg ha
  rw [e0]
  refine ⟨hwf, h.val, by rw [hlen]; exact h.rng, gone0, fun a b h0 hb => ?_, key0, org0, h.exc, by rw [hlen]; exact h.ends⟩
  rcases (row a h0 b).1 hb with ⟨_, ⟨k, _⟩ | ⟨k, _⟩⟩
  ·exact h.cur a b h0 k
  ·exact absurd k ha
theorem expI_zero {n : Int} {E : List Ed} (hR : RightP n E) : ExpI E (nbrs n.toNat E) (List.replicate n.toNat false) [] := by
 have hl := nbrs_length n.toNat E
 have hok := hR.2.2.2.1
 have h0 := hR.1
 refine ⟨begin_wf hR, trivial, fun e h => by simp at h, fun v h => by simp [vsL] at h, fun a b h0 hb => ?_, fun e h => by simp at h, fun p hp => ?_, fun e h => by simp at h, fun p hp => ?_⟩
 ·by_cases ha : a < n.toNat
  ·rw [nbrs_row h0 ha] at hb
   exact .inl (mem_nearL.1 hb)
  ·rw [rowAt_out (by rw [hl]; omega)] at hb; simp at hb
 ·have := hok p hp
  unfold okE at this
  refine .inr (.inr ?_)
  rw [nbrs_row (by omega) (by omega)]
  exact mem_nearL.2 (.inl hp)
 ·have := hok p hp
  unfold okE at this
  rw [hl]; omega
def RunsP (E : List Ed) (l : List Stp) (n i : Nat) : Prop := ∃ N G, N.length = n /\ ExpI E N G (addsL (l.take i)) /\ (replS (l.drop i) N G).2.1 = true
theorem runs_zero {n : Int} {E : List Ed} {l : List Stp} (h : (replO n E l).2 = true) : RightP n E /\ RunsP E l n.toNat 0 := by
 unfold replO at h
 split at h
 ·rename_i hR
  exact ⟨hR, nbrs n.toNat E, List.replicate n.toNat false, nbrs_length _ _, expI_zero hR, h⟩
 ·simp at h
end Go.Sh
namespace Go.Sh
def smallNums (L : List (List Int)) : Prop := ∀ p ∈ L, ∀ x ∈ p, i64 x
end Go.Sh
namespace Go.Sh
open Go.Proofs
theorem path_rch {E : List Ed} {p : List Int} (hs : stepsE E p) (h2 : 2 <= p.length) {l : List Int} (hl : ∀ x ∈ innerL p, x ∈ l) : ∀ i, i + 1 < p.length -> Rch E l (p.headD 0) (p.getD i 0) := by
 intro i
 induction i with
 | zero =>
  intro _
  have : p.getD 0 0 = p.headD 0 := by cases p <;> rfl
  rw [this]; exact .base
 | succ i ih =>
  intro hi
  refine .step (ih (by omega)) (hs i (by omega)) (hl _ (mem_inner.2 ⟨i, by omega, ?_⟩))
  exact getD_at (by omega)
theorem touch_of {E : List Ed} {A B : List Int} {a b : Int} (h : adjE E a b) (ha : a ∈ A) (hb : b ∈ B) : touchB E A B = true := by
 unfold touchB
 rw [List.any_eq_true]
 rcases h with h | h
 ·exact ⟨_, h, by simp [ha, hb]⟩
 ·exact ⟨_, h, by simp [ha, hb]⟩
theorem headD_at {p : List Int} (h : 0 < p.length) : p.headD 0 = p.getD 0 0 := by cases p with | nil => simp at h | cons a l => rfl
theorem lastD_at {p : List Int} : p.getLastD 0 = p.getD (p.length - 1) 0 := by
 rw [List.getLastD_eq_getLast?, List.getLast?_eq_getElem?, List.getD_eq_getElem?_getD]
theorem getD_mem {p : List Int} {i : Nat} (h : i < p.length) : p.getD i 0 ∈ p := by rw [getD_at h]; exact List.getElem_mem h
theorem path_last {E : List Ed} {p : List Int} (hs : stepsE E p) (h2 : 2 <= p.length) : ∃ u, (u = p.headD 0 \/ u ∈ innerL p) /\ adjE E u (p.getLastD 0) := by
 have h := hs (p.length - 2) (by omega)
 rw [show p.length - 2 + 1 = p.length - 1 by omega, <- lastD_at] at h
 refine ⟨_, ?_, h⟩
 by_cases h3 : p.length = 2
 ·left; rw [h3, headD_at (by omega)]
 ·right
  exact mem_inner.2 ⟨p.length - 3, by omega, by rw [getD_at (by omega)]; congr 1; omega⟩
theorem path_first {E : List Ed} {p : List Int} (hs : stepsE E p) (h3 : 3 <= p.length) : (innerL p).headD 0 ∈ innerL p /\ adjE E (p.headD 0) ((innerL p).headD 0) /\ (∃ u ∈ innerL p, adjE E u (p.getLastD 0)) /\ Conn E (innerL p) := by
 have hl := innerL_length p
 have h0 : (innerL p).headD 0 = p.getD 1 0 := by
  rw [headD_at (by omega), getD_at (by omega), getD_at (by omega), innerL_get (by omega)]
 refine ⟨by rw [headD_at (by omega)]; exact getD_mem (by omega), ?_, ?_, ?_⟩
 ·rw [h0, headD_at (by omega)]; exact hs 0 (by omega)
 ·obtain ⟨u, hu, ha⟩ := path_last hs (by omega)
  have h := hs (p.length - 2) (by omega)
  rw [show p.length - 2 + 1 = p.length - 1 by omega, <- lastD_at] at h
  exact ⟨_, mem_inner.2 ⟨p.length - 3, by omega, by rw [getD_at (by omega)]; congr 1; omega⟩, h⟩
 ·intro v hv
  obtain ⟨i, hi, rfl⟩ := mem_inner.1 hv
  rw [h0]
  clear hv
  induction i with
  | zero => rw [getD_at (by omega)]; exact .base
  | succ i ih =>
   have hst := hs (i + 1) (by omega)
   rw [getD_at (by omega), getD_at (by omega)] at hst
   exact .step (ih (by omega)) hst (mem_inner.2 ⟨i + 1, hi, rfl⟩)
section
variable {n : Int} {E : List Ed} {k : Int} {T : List Int} {L : List (List Int)}
theorem cnt_at {L : List (List Int)} {v : Int} {i j : Nat} {p q : List Int} (hp : L[i]? = some p) (hq : L[j]? = some q) (hij : i ≠ j) (hv : v ∈ p) (hw : v ∈ q) : 2 <= L.flatten.count v := by
 induction L generalizing i j with
 | nil => simp at hp
 | cons x L ih =>
  rw [List.flatten_cons, List.count_append]
  cases i with
  | zero =>
   simp at hp; subst hp
   cases j with
   | zero => exact absurd rfl hij
   | succ j =>
    simp at hq
    have h1 : 0 < x.count v := List.count_pos_iff.2 hv
    have h2 : 0 < L.flatten.count v := List.count_pos_iff.2 (List.mem_flatten.2 ⟨q, List.mem_of_getElem? hq, hw⟩)
    omega
  | succ i =>
   simp at hp
   cases j with
   | zero =>
    simp at hq; subst hq
    have h1 : 0 < x.count v := List.count_pos_iff.2 hw
    have h2 : 0 < L.flatten.count v := List.count_pos_iff.2 (List.mem_flatten.2 ⟨p, List.mem_of_getElem? hp, hv⟩)
    omega
   | succ j =>
    simp at hq
    have := ih hp hq (by omega)
    omega
theorem ends_out {p : List Int} (hn : p.Nodup) {v : Int} (hv : v ∈ innerL p) : v ≠ p.headD 0 /\ v ≠ p.getLastD 0 := by
 obtain ⟨i, hi, rfl⟩ := mem_inner.1 hv
 rw [headD_at (by omega), lastD_at, getD_at (by omega), getD_at (by omega)]
 constructor
 ·intro e
  have := (List.getElem_inj hn).1 e
  omega
 ·intro e
  have := (List.getElem_inj hn).1 e
  omega
theorem inner_end (h : SubP n E k T L) {i j : Nat} {p q : List Int} (hp : L[i]? = some p) (hq : L[j]? = some q) {v : Int} (hv : v ∈ innerL p) : v ≠ q.headD 0 /\ v ≠ q.getLastD 0 := by
 obtain ⟨hs, hf, ha⟩ := h
 have hvp : v ∈ p := by obtain ⟨x, hx, rfl⟩ := mem_inner.1 hv; exact List.getElem_mem _
 by_cases hij : i = j
 ·subst hij
  rw [hp] at hq; injection hq with hq; subst hq
  exact ends_out (hf _ _ hp).1.2.2.2.1 hv
 ·have hc := ha p (List.mem_of_getElem? hp) v hv
  have hqn := (hf _ _ hq).1.2.1
  have hql : 0 < q.length := List.length_pos_iff.2 hqn
  constructor
  ·intro e
   have := cnt_at hp hq hij hvp (by rw [e, headD_at hql]; exact getD_mem hql)
   omega
  ·intro e
   have := cnt_at hp hq hij hvp (by rw [e, lastD_at]; exact getD_mem (by omega))
   omega
theorem cnt_inner (p : List Int) (v : Int) : (innerL p).count v <= p.count v :=
 List.Sublist.count_le v ((List.dropLast_sublist _).trans (List.drop_sublist _ _))
theorem cnt_inners (L : List (List Int)) (v : Int) : (L.map innerL).flatten.count v <= L.flatten.count v := by
 induction L with
 | nil => simp
 | cons p L ih =>
  simp only [List.map_cons, List.flatten_cons, List.count_append]
  have := cnt_inner p v
  omega
theorem inners_nodup (h : ApartP L) : (L.map innerL).flatten.Nodup := by
 rw [List.nodup_iff_count]
 intro v
 by_cases hv : v ∈ (L.map innerL).flatten
 ·obtain ⟨r, hr, hvr⟩ := List.mem_flatten.1 hv
  obtain ⟨p, hp, rfl⟩ := List.mem_map.1 hr
  have := h p hp v hvr
  have := cnt_inners L v
  omega
 ·rw [List.count_eq_zero.2 hv]; omega
theorem sub_in (h : SubP n E k T L) {p : List Int} {i : Nat} (hp : L[i]? = some p) : ∀ v ∈ innerL p, 0 <= v /\ v < n := fun v hv => by
 obtain ⟨x, hx, rfl⟩ := mem_inner.1 hv
 exact path_in (h.2.1 _ _ hp).1 _ (List.getElem_mem _)
end
theorem adj_sym {E : List Ed} {x y : Int} (h : adjE E x y) : adjE E y x := h.elim .inr .inl
theorem conn_star {E : List Ed} {a : Int} {ps : List (List Int)} (h : ∀ p ∈ ps, stepsE E p /\ 2 <= p.length /\ p.headD 0 = a) : Conn E (a :: ps.flatMap innerL) := by
 intro v hv
 show Rch E _ a v
 rcases List.mem_cons.1 hv with rfl | hv
 ·exact .base
 ·obtain ⟨p, hp, hvp⟩ := List.mem_flatMap.1 hv
  obtain ⟨h1, h2, h3⟩ := h p hp
  obtain ⟨i, hi, rfl⟩ := mem_inner.1 hvp
  have := path_rch (l := a :: ps.flatMap innerL) h1 h2 (fun x hx => List.mem_cons_of_mem _ (List.mem_flatMap.2 ⟨p, hp, hx⟩)) (i + 1) hi
  rwa [h3, getD_at (by omega)] at this
theorem path_ends {n : Int} {E : List Ed} {p : List Int} (h : PathP n E p) : (0 <= p.headD 0 /\ p.headD 0 < n) /\ (0 <= p.getLastD 0 /\ p.getLastD 0 < n) := by
 have hl : 0 < p.length := List.length_pos_iff.2 h.2.1
 exact ⟨h.2.2.1, by rw [lastD_at]; exact path_in h _ (getD_mem (by omega))⟩
theorem sub_model {n : Int} {E : List Ed} {k : Int} {T : List Int} {L : List (List Int)} (h : SubP n E k T L) : CheckP n E k (modF k T L).2 /\ (modF k T L).1 = k := by
 have hT := sub_tops h
 have hin := @sub_in _ _ _ _ _ h
 have hie := @inner_end _ _ _ _ _ h
 obtain ⟨hs, hf, ha⟩ := id h
 have hnd := inners_nodup ha
 have h2 : ∀ p ∈ L, 2 <= p.length := fun p hp => by
  obtain ⟨i, hi, rfl⟩ := List.mem_iff_getElem.1 hp
  have := (hf i _ (List.getElem?_eq_getElem hi)).2.2.2
  rcases hs with hs | hs <;> omega
 have hm : modF k T L = (k, if k = 1 then (List.range T.length).map fun i => T.getD i 0 :: ((List.range L.length).filter fun j => fromT 1 j == i).flatMap fun j => innerL (L.getD j []) else T.map (fun v => [v]) ++ L.map innerL) := if_pos ⟨hs, h2⟩
 rw [hm]
 refine ⟨?_, rfl⟩
 dsimp only
 rcases hs with ⟨rfl, hTl, hLl⟩ | ⟨rfl, hTl, hLl⟩
 ·rw [if_pos rfl]
  match T, hTl, L, hLl with
  | [a, b, c, d], _, [p0, p1, p2, p3, p4, p5], _ =>
   have f0 : PathP n E p0 /\ p0.headD 0 = a /\ p0.getLastD 0 = b /\ (1 : Int) + 1 <= p0.length := hf 0 p0 rfl
   have f1 : PathP n E p1 /\ p1.headD 0 = a /\ p1.getLastD 0 = c /\ (1 : Int) + 1 <= p1.length := hf 1 p1 rfl
   have f2 : PathP n E p2 /\ p2.headD 0 = a /\ p2.getLastD 0 = d /\ (1 : Int) + 1 <= p2.length := hf 2 p2 rfl
   have f3 : PathP n E p3 /\ p3.headD 0 = b /\ p3.getLastD 0 = c /\ (1 : Int) + 1 <= p3.length := hf 3 p3 rfl
   have f4 : PathP n E p4 /\ p4.headD 0 = b /\ p4.getLastD 0 = d /\ (1 : Int) + 1 <= p4.length := hf 4 p4 rfl
   have f5 : PathP n E p5 /\ p5.headD 0 = c /\ p5.getLastD 0 = d /\ (1 : Int) + 1 <= p5.length := hf 5 p5 rfl
   have i0 := hin (i := 0) (p := p0) rfl
   have i1 := hin (i := 1) (p := p1) rfl
   have i2 := hin (i := 2) (p := p2) rfl
   have i3 := hin (i := 3) (p := p3) rfl
   have i4 := hin (i := 4) (p := p4) rfl
   have i5 := hin (i := 5) (p := p5) rfl
   have hS : ((List.range [a, b, c, d].length).map fun i => [a, b, c, d].getD i 0 :: ((List.range [p0, p1, p2, p3, p4, p5].length).filter fun j => fromT 1 j == i).flatMap fun j => innerL ([p0, p1, p2, p3, p4, p5].getD j [])) =
     [a :: (innerL p0 ++ (innerL p1 ++ innerL p2)), b :: (innerL p3 ++ innerL p4), c :: innerL p5, [d]] := by
    simp [List.range_succ, fromT, prsT, List.filter_cons]
   rw [hS]
   obtain ⟨P0, h00, l00, z0⟩ := f0
   have z0 : 2 <= p0.length := by omega
   obtain ⟨P1, h01, l01, z1⟩ := f1
   have z1 : 2 <= p1.length := by omega
   obtain ⟨P2, h02, l02, z2⟩ := f2
   have z2 : 2 <= p2.length := by omega
   obtain ⟨P3, h03, l03, z3⟩ := f3
   have z3 : 2 <= p3.length := by omega
   obtain ⟨P4, h04, l04, z4⟩ := f4
   have z4 : 2 <= p4.length := by omega
   obtain ⟨P5, h05, l05, z5⟩ := f5
   have z5 : 2 <= p5.length := by omega
   have hall : ∀ v, (v = a \/ v = b \/ v = c \/ v = d) -> v ∉ ([p0, p1, p2, p3, p4, p5].map innerL).flatten := fun v hv hx => by
    obtain ⟨r, hr, hvr⟩ := List.mem_flatten.1 hx
    obtain ⟨p, hp, rfl⟩ := List.mem_map.1 hr
    obtain ⟨i, hi, rfl⟩ := List.mem_iff_getElem.1 hp
    have hg := List.getElem?_eq_getElem hi
    rcases hv with rfl | rfl | rfl | rfl
    ·exact (hie hg (j := 0) (q := p0) rfl hvr).1 h00.symm
    ·exact (hie hg (j := 3) (q := p3) rfl hvr).1 h03.symm
    ·exact (hie hg (j := 5) (q := p5) rfl hvr).1 h05.symm
    ·exact (hie hg (j := 2) (q := p2) rfl hvr).2 l02.symm
   have hbig : ([a, b, c, d] ++ ([p0, p1, p2, p3, p4, p5].map innerL).flatten).Nodup := by
    rw [List.nodup_append]
    exact ⟨hT, hnd, fun x hx y hy e => hall x (by simpa using hx) (e ▸ hy)⟩
   have hperm : [a :: (innerL p0 ++ (innerL p1 ++ innerL p2)), b :: (innerL p3 ++ innerL p4), c :: innerL p5, [d]].flatten.Perm ([a, b, c, d] ++ ([p0, p1, p2, p3, p4, p5].map innerL).flatten) := by
    rw [List.perm_iff_count]
    intro v
    simp [List.count_append, List.count_cons]
    omega
   have hfn := hperm.nodup_iff.2 hbig
   have hsn : ∀ l ∈ [a :: (innerL p0 ++ (innerL p1 ++ innerL p2)), b :: (innerL p3 ++ innerL p4), c :: innerL p5, [d]], l.Nodup := fun l hl => (List.sublist_flatten_of_mem hl).nodup hfn
   have hR := P0.1
   have e0 := path_ends P0
   have e2 := path_ends P2
   have e3 := path_ends P3
   have e5 := path_ends P5
   rw [h00] at e0
   rw [l02] at e2
   rw [h03] at e3
   rw [h05] at e5
   have c0 := conn_star (E := E) (a := a) (ps := [p0, p1, p2]) (fun p hp => by
    simp at hp
    rcases hp with rfl | rfl | rfl
    ·exact ⟨P0.2.2.2.2, z0, h00⟩
    ·exact ⟨P1.2.2.2.2, z1, h01⟩
    ·exact ⟨P2.2.2.2.2, z2, h02⟩)
   have c1 := conn_star (E := E) (a := b) (ps := [p3, p4]) (fun p hp => by
    simp at hp
    rcases hp with rfl | rfl
    ·exact ⟨P3.2.2.2.2, z3, h03⟩
    ·exact ⟨P4.2.2.2.2, z4, h04⟩)
   have c2 := conn_star (E := E) (a := c) (ps := [p5]) (fun p hp => by
    simp at hp
    subst hp
    exact ⟨P5.2.2.2.2, z5, h05⟩)
   simp only [List.flatMap_cons, List.flatMap_nil, List.append_nil] at c0 c1 c2
   refine ⟨hR, by decide, by simp [patG], fun l hl => ?_, hfn, fun q hq => ?_⟩
   ·have hln := hsn l hl
    simp only [List.mem_cons, List.not_mem_nil, or_false] at hl
    rcases hl with rfl | rfl | rfl | rfl
    ·refine ⟨hR, by simp, hln, fun v hv => ?_, c0⟩
     simp only [List.mem_cons, List.mem_append] at hv
     rcases hv with rfl | hv | hv | hv
     ·exact e0.1
     ·exact i0 v hv
     ·exact i1 v hv
     ·exact i2 v hv
    ·refine ⟨hR, by simp, hln, fun v hv => ?_, c1⟩
     simp only [List.mem_cons, List.mem_append] at hv
     rcases hv with rfl | hv | hv
     ·exact e3.1
     ·exact i3 v hv
     ·exact i4 v hv
    ·refine ⟨hR, by simp, hln, fun v hv => ?_, c2⟩
     simp only [List.mem_cons] at hv
     rcases hv with rfl | hv
     ·exact e5.1
     ·exact i5 v hv
    ·refine ⟨hR, by simp, hln, fun v hv => ?_, fun v hv => ?_⟩
     ·simp only [List.mem_cons, List.not_mem_nil, or_false] at hv
      subst hv; exact e2.2
     ·simp only [List.mem_cons, List.not_mem_nil, or_false] at hv
      subst hv; exact .base
   ·obtain ⟨u0, k0, a0⟩ := path_last P0.2.2.2.2 z0
    obtain ⟨u1, k1, a1⟩ := path_last P1.2.2.2.2 z1
    obtain ⟨u2, k2, a2⟩ := path_last P2.2.2.2.2 z2
    obtain ⟨u3, k3, a3⟩ := path_last P3.2.2.2.2 z3
    obtain ⟨u4, k4, a4⟩ := path_last P4.2.2.2.2 z4
    obtain ⟨u5, k5, a5⟩ := path_last P5.2.2.2.2 z5
    rw [h00] at k0; rw [h01] at k1; rw [h02] at k2; rw [h03] at k3; rw [h04] at k4; rw [h05] at k5
    rw [l00] at a0; rw [l01] at a1; rw [l02] at a2; rw [l03] at a3; rw [l04] at a4; rw [l05] at a5
    have hq : q = (0, 1) \/ q = (0, 2) \/ q = (0, 3) \/ q = (1, 2) \/ q = (1, 3) \/ q = (2, 3) := by simpa [patG] using hq
    rcases hq with rfl | rfl | rfl | rfl | rfl | rfl
    ·exact touch_of a0 (by simp [setAt]; rcases k0 with h | h <;> simp [h]) (by simp [setAt])
    ·exact touch_of a1 (by simp [setAt]; rcases k1 with h | h <;> simp [h]) (by simp [setAt])
    ·exact touch_of a2 (by simp [setAt]; rcases k2 with h | h <;> simp [h]) (by simp [setAt])
    ·exact touch_of a3 (by simp [setAt]; rcases k3 with h | h <;> simp [h]) (by simp [setAt])
    ·exact touch_of a4 (by simp [setAt]; rcases k4 with h | h <;> simp [h]) (by simp [setAt])
    ·exact touch_of a5 (by simp [setAt]; rcases k5 with h | h <;> simp [h]) (by simp [setAt])
 ·rw [if_neg (by decide)]
  match T, hTl, L, hLl with
  | [a, b], _, [p0, p1, p2], _ =>
   have f0 : PathP n E p0 /\ p0.headD 0 = a /\ p0.getLastD 0 = b /\ (2 : Int) + 1 <= p0.length := hf 0 p0 rfl
   have f1 : PathP n E p1 /\ p1.headD 0 = a /\ p1.getLastD 0 = b /\ (2 : Int) + 1 <= p1.length := hf 1 p1 rfl
   have f2 : PathP n E p2 /\ p2.headD 0 = a /\ p2.getLastD 0 = b /\ (2 : Int) + 1 <= p2.length := hf 2 p2 rfl
   have i0 := hin (i := 0) (p := p0) rfl
   have i1 := hin (i := 1) (p := p1) rfl
   have i2 := hin (i := 2) (p := p2) rfl
   obtain ⟨P0, h00, l00, z0⟩ := f0
   have z0 : 3 <= p0.length := by omega
   obtain ⟨P1, h01, l01, z1⟩ := f1
   have z1 : 3 <= p1.length := by omega
   obtain ⟨P2, h02, l02, z2⟩ := f2
   have z2 : 3 <= p2.length := by omega
   have hall : ∀ v, (v = a \/ v = b) -> v ∉ ([p0, p1, p2].map innerL).flatten := fun v hv hx => by
    obtain ⟨r, hr, hvr⟩ := List.mem_flatten.1 hx
    obtain ⟨p, hp, rfl⟩ := List.mem_map.1 hr
    obtain ⟨i, hi, rfl⟩ := List.mem_iff_getElem.1 hp
    have hg := List.getElem?_eq_getElem hi
    rcases hv with rfl | rfl
    ·exact (hie hg (j := 0) (q := p0) rfl hvr).1 h00.symm
    ·exact (hie hg (j := 0) (q := p0) rfl hvr).2 l00.symm
   have hbig : ([a, b] ++ ([p0, p1, p2].map innerL).flatten).Nodup := by
    rw [List.nodup_append]
    exact ⟨hT, hnd, fun x hx y hy e => hall x (by simpa using hx) (e ▸ hy)⟩
   have hfn : (([a, b].map fun v => [v]) ++ [p0, p1, p2].map innerL).flatten.Nodup := by simpa using hbig
   have hsn : ∀ l ∈ (([a, b].map fun v => [v]) ++ [p0, p1, p2].map innerL), l.Nodup := fun l hl => (List.sublist_flatten_of_mem hl).nodup hfn
   have hR := P0.1
   have e0 := path_ends P0
   rw [h00, l00] at e0
   obtain ⟨w0, x0, ⟨u0, k0, y0⟩, c0⟩ := path_first P0.2.2.2.2 z0
   obtain ⟨w1, x1, ⟨u1, k1, y1⟩, c1⟩ := path_first P1.2.2.2.2 z1
   obtain ⟨w2, x2, ⟨u2, k2, y2⟩, c2⟩ := path_first P2.2.2.2.2 z2
   rw [h00] at x0; rw [h01] at x1; rw [h02] at x2
   rw [l00] at y0; rw [l01] at y1; rw [l02] at y2
   refine ⟨hR, by decide, by simp [patG], fun l hl => ?_, hfn, fun q hq => ?_⟩
   ·have hln := hsn l hl
    have hl : l = [a] \/ l = [b] \/ l = innerL p0 \/ l = innerL p1 \/ l = innerL p2 := by simpa using hl
    have one : ∀ z, (0 <= z /\ z < n) -> WholeP n E [z] := fun z hz => ⟨hR, by simp, by simp, fun v hv => by simp at hv; subst hv; exact hz, fun v hv => by simp at hv; subst hv; exact .base⟩
    rcases hl with rfl | rfl | rfl | rfl | rfl
    ·exact one _ e0.1
    ·exact one _ e0.2
    ·exact ⟨hR, List.ne_nil_of_mem w0, hln, i0, c0⟩
    ·exact ⟨hR, List.ne_nil_of_mem w1, hln, i1, c1⟩
    ·exact ⟨hR, List.ne_nil_of_mem w2, hln, i2, c2⟩
   ·have hq : q = (0, 2) \/ q = (0, 3) \/ q = (0, 4) \/ q = (1, 2) \/ q = (1, 3) \/ q = (1, 4) := by simpa [patG] using hq
    rcases hq with rfl | rfl | rfl | rfl | rfl | rfl
    ·exact touch_of x0 (by simp [setAt]) (by simpa [setAt] using w0)
    ·exact touch_of x1 (by simp [setAt]) (by simpa [setAt] using w1)
    ·exact touch_of x2 (by simp [setAt]) (by simpa [setAt] using w2)
    ·exact touch_of (adj_sym y0) (by simp [setAt]) (by simpa [setAt] using k0)
    ·exact touch_of (adj_sym y1) (by simp [setAt]) (by simpa [setAt] using k1)
    ·exact touch_of (adj_sym y2) (by simp [setAt]) (by simpa [setAt] using k2)
end Go.Sh
namespace Go.Sh
def Known (E : List Ed) : List Add -> Prop
 | [] => True
 | e :: r => ((adjE E e.1 e.2.2 \/ inKeys r e.1 e.2.2) /\ (adjE E e.2.2 e.2.1 \/ inKeys r e.2.2 e.2.1)) /\ Known E r
theorem replS_log {E : List Ed} : ∀ {l : List Stp} {N : List (List Int)} {G : List Bool} {r : List Add}, ExpI E N G r -> Known E r -> (replS l N G).2.1 = true -> ∃ N' G', (replS l N G).2.2 = (N', G') /\ N'.length = N.length /\ ExpI E N' G' (l.foldl addStep r) /\ Known E (l.foldl addStep r) := by
 intro l
 induction l with
 | nil => intro N G r h k _; exact ⟨N, G, rfl, rfl, h, k⟩
 | cons s l ih =>
  intro N G r h k hr
  cases hm : mayStp N G s with
  | false => rw [replS_no hm] at hr; simp at hr
  | true =>
   rw [replS_go hm] at hr ⊢
   have k2 : Known E (addStep r s) := by
    unfold addStep
    by_cases ha : s.2.2.2 = true
    ·rw [if_pos ha]
     obtain ⟨_, _, _, _, _, _, _, q1, q2⟩ := added_fact h hm ha
     exact ⟨⟨q1, q2⟩, k⟩
    ·rw [if_neg ha]; exact k
   obtain ⟨N', G', h1, h2, h3, h4⟩ := ih (h.step hm) k2 hr
   exact ⟨N', G', h1, by rw [h2, doN_length], h3, h4⟩
theorem log_of {n : Int} {E : List Ed} {l : List Stp} (h : (replO n E l).2 = true) : RightP n E /\ ∃ N G, N.length = n.toNat /\ ExpI E N G (addsL l) /\ Known E (addsL l) /\ (replO n E l).1.2 = (leftF G, edgesF N G) := by
 have hR := (runs_zero h).1
 have he : replO n E l = (((replR n E l).1, leftF (replR n E l).2.2.2, edgesF (replR n E l).2.2.1 (replR n E l).2.2.2), (replR n E l).2.1) := if_pos hR
 rw [he] at h ⊢
 obtain ⟨N, G, h1, h2, h3, h4⟩ := replS_log (expI_zero hR) trivial h
 refine ⟨hR, N, G, by rw [h2, nbrs_length], h3, h4, ?_⟩
 show (leftF (replR n E l).2.2.2, edgesF (replR n E l).2.2.1 (replR n E l).2.2.2) = _
 have : (replR n E l).2.2 = (N, G) := h1
 rw [this]
theorem steps_join {E : List Ed} {p q : List Int} {v : Int} (h1 : stepsE E (p ++ [v])) (h2 : stepsE E (v :: q)) : stepsE E (p ++ v :: q) := by
 intro i hi
 simp only [List.length_append, List.length_cons] at hi
 by_cases h : i + 1 <= p.length
 ·have := h1 i (by simp; omega)
  have e : ∀ j, j <= p.length -> (p ++ v :: q).getD j 0 = (p ++ [v]).getD j 0 := fun j hj => by
   rw [List.getD_eq_getElem?_getD, List.getD_eq_getElem?_getD]
   by_cases hj2 : j < p.length
   ·rw [List.getElem?_append_left hj2, List.getElem?_append_left hj2]
   ·rw [List.getElem?_append_right (by omega), List.getElem?_append_right (by omega), show j - p.length = 0 by omega]; rfl
  rw [e _ (by omega), e _ (by omega)]; exact this
 ·have := h2 (i - p.length) (by simp; omega)
  have e : ∀ j, p.length <= j -> (p ++ v :: q).getD j 0 = (v :: q).getD (j - p.length) 0 := fun j hj => by
   rw [List.getD_eq_getElem?_getD, List.getD_eq_getElem?_getD, List.getElem?_append_right hj]
  rw [e _ (by omega), e _ (by omega), show i + 1 - p.length = i - p.length + 1 by omega]; exact this
theorem whole_steps {E : List Ed} : ∀ {r : List Add}, Known E r -> ∀ {a b : Int}, (adjE E a b \/ inKeys r a b) -> stepsE E (a :: pth r a b ++ [b]) := by
 intro r
 induction r with
 | nil =>
  intro _ a b h i hi
  have h := h.resolve_right fun ⟨e, he, _⟩ => by simp at he
  have : i = 0 := by simp [pth] at hi; omega
  subst this
  exact h
 | cons e r ih =>
  intro hk a b h
  by_cases hab : keyP a b e
  ·have hb : (adjE E a e.2.2 \/ inKeys r a e.2.2) /\ (adjE E e.2.2 b \/ inKeys r e.2.2 b) := by
    rcases hab with ⟨rfl, rfl⟩ | ⟨rfl, rfl⟩
    ·exact hk.1
    ·exact ⟨hk.1.2.imp adj_sym inKeys_symm.1, hk.1.1.imp adj_sym inKeys_symm.1⟩
   rw [pth_pos hab]
   have := steps_join (p := a :: pth r a e.2.2) (ih hk.2 hb.1) (ih hk.2 hb.2)
   simpa using this
  ·rw [pth_neg hab]
   refine ih hk.2 (h.imp id ?_)
   rintro ⟨e', he, k⟩
   rcases List.mem_cons.1 he with rfl | he
   ·exact absurd k hab
   ·exact ⟨e', he, k⟩
theorem live_end {E : List Ed} {N : List (List Int)} {G : List Bool} {r : List Add} (h : ExpI E N G r) {a b : Int} (ha : 0 <= a) (hb : b ∈ rowAt N a) : a ∉ vsL r /\ b ∉ vsL r /\ a ≠ b /\ a < N.length /\ 0 <= b /\ b < N.length := by
 have h1 := (h.wf.rows a).2 b hb
 have h2 := h.wf.sym a b ha h1.1 hb
 have h3 := (h.wf.rows b).2 a h2
 refine ⟨fun k => ?_, fun k => ?_, fun k => ?_, h3.2, h1.1, h1.2⟩
 ·rw [h.wf.gone a ha (h.gone a k)] at hb; simp at hb
 ·rw [h.wf.gone b h1.1 (h.gone b k)] at h2; simp at h2
 ·exact h.wf.irr a ha (by rw [<- k] at hb; exact hb)
theorem adj_left {N : List (List Int)} {G : List Bool} (h : Wf N G) {a b : Int} (k : adjE (edgesF N G) a b) : 0 <= a /\ b ∈ rowAt N a := by
 rcases k with k | k
 ·have := (mem_edgesF h).1 k
  exact ⟨this.1, this.2.2⟩
 ·have := (mem_edgesF h).1 k
  exact ⟨by omega, h.sym b a this.1 (by omega) this.2.2⟩
theorem cnt_one {L : List (List Int)} {v : Int} {i : Nat} {p : List Int} (hp : L[i]? = some p) (h1 : p.count v = 1) (h : ∀ j q, L[j]? = some q -> j ≠ i -> v ∉ q) : L.flatten.count v = 1 := by
 induction L generalizing i with
 | nil => simp at hp
 | cons x L ih =>
  rw [List.flatten_cons, List.count_append]
  cases i with
  | zero =>
   simp at hp; subst hp
   have : L.flatten.count v = 0 := List.count_eq_zero.2 fun hm => by
    obtain ⟨q, hq, hv⟩ := List.mem_flatten.1 hm
    obtain ⟨j, hj, rfl⟩ := List.mem_iff_getElem.1 hq
    exact h (j + 1) _ (by rw [List.getElem?_cons_succ, List.getElem?_eq_getElem hj]) (by omega) hv
   omega
  | succ i =>
   simp at hp
   have := ih hp (fun j q hq hj => h (j + 1) q (by simpa using hq) (by omega))
   have h0 : x.count v = 0 := List.count_eq_zero.2 (h 0 x rfl (by omega))
   omega
def bigP (r : List Add) : List Int -> List Int
 | [] => []
 | [a] => [a]
 | a :: b :: t => a :: pth r a b ++ bigP r (b :: t)
def stepsR (R : Int -> Int -> Prop) (p : List Int) : Prop := ∀ i, i + 1 < p.length -> R (p.getD i 0) (p.getD (i + 1) 0)
theorem stepsR_cons {R : Int -> Int -> Prop} {a b : Int} {t : List Int} (h : stepsR R (a :: b :: t)) : R a b /\ stepsR R (b :: t) :=
 ⟨h 0 (by simp), fun i hi => h (i + 1) (by simp at hi ⊢; omega)⟩
theorem big_cons (r : List Add) (a : Int) (t : List Int) : ∃ q, bigP r (a :: t) = a :: q := by
 cases t with
 | nil => exact ⟨[], rfl⟩
 | cons b t => exact ⟨pth r a b ++ bigP r (b :: t), rfl⟩
theorem big_steps {E : List Ed} {r : List Add} (hk : Known E r) : ∀ {p : List Int}, stepsR (fun a b => adjE E a b \/ inKeys r a b) p -> stepsE E (bigP r p) := by
 intro p
 induction p with
 | nil => intro _ i hi; simp [bigP] at hi
 | cons a t ih =>
  intro h
  cases t with
  | nil => intro i hi; simp [bigP] at hi
  | cons b t =>
   obtain ⟨h1, h2⟩ := stepsR_cons h
   obtain ⟨q, hq⟩ := big_cons r b t
   have := ih h2
   simp only [bigP]
   rw [hq] at this ⊢
   exact steps_join (p := a :: pth r a b) (whole_steps hk h1) this
theorem big_mem {r : List Add} {x : Int} : ∀ {p : List Int}, x ∈ bigP r p -> x ∈ p \/ ∃ i, i + 1 < p.length /\ x ∈ pth r (p.getD i 0) (p.getD (i + 1) 0) := by
 intro p
 induction p with
 | nil => intro h; simp [bigP] at h
 | cons a t ih =>
  intro h
  cases t with
  | nil => exact .inl h
  | cons b t =>
   simp only [bigP, List.cons_append, List.mem_cons, List.mem_append] at h
   rcases h with h | h | h
   ·exact .inl (by rw [h]; simp)
   ·exact .inr ⟨0, by simp, h⟩
   ·rcases ih h with h | ⟨i, hi, h⟩
    ·exact .inl (List.mem_cons_of_mem _ h)
    ·exact .inr ⟨i + 1, by simp at hi ⊢; omega, h⟩
theorem big_ends (r : List Add) : ∀ (p : List Int), (bigP r p).headD 0 = p.headD 0 /\ (bigP r p).getLastD 0 = p.getLastD 0 := by
 intro p
 induction p with
 | nil => exact ⟨rfl, rfl⟩
 | cons a t ih =>
  cases t with
  | nil => exact ⟨rfl, rfl⟩
  | cons b t =>
   refine ⟨rfl, ?_⟩
   obtain ⟨q, hq⟩ := big_cons r b t
   rw [show (a :: b :: t).getLastD 0 = (b :: t).getLastD 0 from rfl, <- ih.2]
   simp only [bigP]
   rw [hq, List.getLastD_eq_getLast?, List.getLastD_eq_getLast?, List.getLast?_append]
   cases hh : (b :: q).getLast? with
   | none => simp at hh
   | some z => rfl
theorem big_len (r : List Add) : ∀ (p : List Int), p.length <= (bigP r p).length := by
 intro p
 induction p with
 | nil => simp
 | cons a t ih =>
  cases t with
  | nil => simp [bigP]
  | cons b t => simp only [bigP, List.length_append, List.length_cons] at ih ⊢; omega
theorem big_count {r : List Add} {v : Int} (hv : v ∉ vsL r) : ∀ (p : List Int), (bigP r p).count v = p.count v := by
 intro p
 induction p with
 | nil => rfl
 | cons a t ih =>
  cases t with
  | nil => rfl
  | cons b t =>
   have h0 : (pth r a b).count v = 0 := List.count_eq_zero.2 fun k => hv (pth_mem k)
   simp only [bigP]
   rw [List.count_append, List.count_cons, h0, ih, List.count_cons (l := b :: t)]
   omega
theorem big_nodup {r : List Add} (hV : Val r) : ∀ {p : List Int}, p.Nodup -> (∀ x ∈ p, x ∉ vsL r) -> (bigP r p).Nodup := by
 intro p
 induction p with
 | nil => intro _ _; simp [bigP]
 | cons a t ih =>
  intro hn hl
  cases t with
  | nil => simp [bigP]
  | cons b t =>
   have hn' := List.nodup_cons.1 hn
   have ih := ih hn'.2 fun x hx => hl x (List.mem_cons_of_mem _ hx)
   have ha := hl a (by simp)
   have hb := hl b (by simp)
   simp only [bigP]
   rw [List.cons_append, List.nodup_cons, List.nodup_append]
   refine ⟨fun k => ?_, pth_nodup hV, ih, fun x hx y hy => ?_⟩
   ·rcases List.mem_append.1 k with k | k
    ·exact ha (pth_mem k)
    ·rcases big_mem k with k | ⟨i, hi, k⟩
     ·exact hn'.1 k
     ·exact ha (pth_mem k)
   ·rintro rfl
    rcases big_mem hy with k | ⟨i, hi, k⟩
    ·exact hl x (List.mem_cons_of_mem _ k) (pth_mem hx)
    ·have m1 := getD_mem (p := b :: t) (i := i) (by omega)
     have m2 := getD_mem (p := b :: t) (i := i + 1) hi
     refine pth_apart hV ha hb (hl _ (List.mem_cons_of_mem _ m1)) (hl _ (List.mem_cons_of_mem _ m2)) ?_ hx k
     rintro (⟨k1, _⟩ | ⟨k1, _⟩)
     ·exact hn'.1 (k1 ▸ m1)
     ·exact hn'.1 (k1 ▸ m2)
theorem inner_mem {p : List Int} {v : Int} (hv : v ∈ p) (h1 : v ≠ p.headD 0) (h2 : v ≠ p.getLastD 0) : v ∈ innerL p := by
 obtain ⟨i, hi, rfl⟩ := List.mem_iff_getElem.1 hv
 rw [headD_at (by omega), getD_at (by omega)] at h1
 rw [lastD_at, getD_at (by omega)] at h2
 have i0 : i ≠ 0 := by rintro rfl; exact h1 rfl
 have i1 : i ≠ p.length - 1 := by rintro rfl; exact h2 rfl
 exact mem_inner.2 ⟨i - 1, by omega, by congr 1; omega⟩
theorem innerL_mem {p : List Int} {v : Int} (h : v ∈ innerL p) : v ∈ p := by obtain ⟨x, hx, rfl⟩ := mem_inner.1 h; exact List.getElem_mem _
theorem inner_not {p : List Int} {i : Nat} (hi : i < p.length) (h : p.getD i 0 ∉ innerL p) : i = 0 \/ i + 1 = p.length := by
 rcases Nat.eq_zero_or_pos i with h0 | h0
 ·exact .inl h0
 ·refine .inr ?_
  by_cases h1 : i + 1 = p.length
  ·exact h1
  ·exact absurd (mem_inner.2 ⟨i - 1, by omega, by rw [getD_at hi]; congr 1; omega⟩) h
theorem pairs_apart {n : Int} {E : List Ed} {k : Int} {T : List Int} {L : List (List Int)} (h : SubP n E k T L) {i j s t : Nat} {p q : List Int} (hp : L[i]? = some p) (hq : L[j]? = some q) (hij : i ≠ j) (hs : s + 1 < p.length) (ht : t + 1 < q.length) : ¬ sameP (p.getD s 0) (p.getD (s + 1) 0) (q.getD t 0) (q.getD (t + 1) 0) := by
 intro hS
 have hT := sub_tops h
 obtain ⟨hsh, hf, ha⟩ := id h
 have no1 : ∀ v, v ∈ p -> v ∈ q -> v ∉ innerL p := fun v h1 h2 h3 => by
  have := ha p (List.mem_of_getElem? hp) v h3
  have := cnt_at hp hq hij h1 h2
  omega
 have no2 : ∀ v, v ∈ p -> v ∈ q -> v ∉ innerL q := fun v h1 h2 h3 => by
  have := ha q (List.mem_of_getElem? hq) v h3
  have := cnt_at hp hq hij h1 h2
  omega
 have q0 := getD_mem (p := q) (i := t) (by omega)
 have q1 := getD_mem (p := q) (i := t + 1) ht
 have p0 := getD_mem (p := p) (i := s) (by omega)
 have p1 := getD_mem (p := p) (i := s + 1) hs
 have a1 : p.getD s 0 ∈ q := by rcases hS with ⟨k, _⟩ | ⟨k, _⟩ <;> rw [k] <;> assumption
 have a2 : p.getD (s + 1) 0 ∈ q := by rcases hS with ⟨_, k⟩ | ⟨_, k⟩ <;> rw [k] <;> assumption
 have b1 : q.getD t 0 ∈ p := by rcases hS with ⟨k, k'⟩ | ⟨k, k'⟩ <;> first | (rw [<- k]; assumption) | (rw [<- k']; assumption)
 have b2 : q.getD (t + 1) 0 ∈ p := by rcases hS with ⟨k, k'⟩ | ⟨k, k'⟩ <;> first | (rw [<- k']; assumption) | (rw [<- k]; assumption)
 have c1 := inner_not (by omega) (no1 _ p0 a1)
 have c2 := inner_not hs (no1 _ p1 a2)
 have c3 := inner_not (by omega) (no2 _ b1 q0)
 have c4 := inner_not ht (no2 _ b2 q1)
 have hs0 : s = 0 := by omega
 have ht0 : t = 0 := by omega
 have lp : p.length = 2 := by omega
 have lq : q.length = 2 := by omega
 subst hs0 ht0
 obtain ⟨_, f1, f2, f3⟩ := hf i p hp
 obtain ⟨_, g1, g2, g3⟩ := hf j q hq
 rw [headD_at (by omega)] at f1 g1
 rw [lastD_at, lp] at f2
 rw [lastD_at, lq] at g2
 have f2 : p.getD (0 + 1) 0 = _ := f2
 have g2 : q.getD (0 + 1) 0 = _ := g2
 rw [f1, f2, g1, g2] at hS
 have hi := (List.getElem?_eq_some_iff.1 hp).1
 have hj := (List.getElem?_eq_some_iff.1 hq).1
 rcases hsh with ⟨rfl, hT4, hL⟩ | ⟨rfl, hT2, hL⟩
 ·match T, hT4, hT with
  | [a, b, c, d], _, hT =>
   simp only [List.nodup_cons, List.mem_cons, List.not_mem_nil, or_false, not_or, List.nodup_nil, not_false_eq_true, and_true] at hT
   obtain ⟨⟨n1, n2, n3⟩, ⟨n4, n5⟩, n6⟩ := hT
   have hi6 : i = 0 \/ i = 1 \/ i = 2 \/ i = 3 \/ i = 4 \/ i = 5 := by omega
   have hj6 : j = 0 \/ j = 1 \/ j = 2 \/ j = 3 \/ j = 4 \/ j = 5 := by omega
   unfold sameP at hS
   rcases hi6 with rfl | rfl | rfl | rfl | rfl | rfl <;> rcases hj6 with rfl | rfl | rfl | rfl | rfl | rfl <;> first | exact hij rfl | (simp [prsT] at hS; omega)
 ·omega
theorem flat_big {r : List Add} {v : Int} (hv : v ∉ vsL r) (L : List (List Int)) : (L.map (bigP r)).flatten.count v = L.flatten.count v := by
 induction L with
 | nil => rfl
 | cons p L ih => rw [List.map_cons, List.flatten_cons, List.flatten_cons, List.count_append, List.count_append, ih, big_count hv]
theorem big_sub {n : Int} {E : List Ed} {N : List (List Int)} {G : List Bool} {r : List Add} (hR : RightP n E) (hN : N.length = n.toNat) (h : ExpI E N G r) (hk : Known E r) {k : Int} {T : List Int} {L : List (List Int)} (hS : SubP n (edgesF N G) k T L) : SubP n E k T (L.map (bigP r)) := by
 obtain ⟨hsh, hf, ha⟩ := id hS
 have hk1 : 1 <= k := by rcases hsh with ⟨rfl, _⟩ | ⟨rfl, _⟩ <;> omega
 have alive : ∀ p ∈ L, ∀ x ∈ p, x ∉ vsL r := fun p hp x hx => by
  obtain ⟨i, hi, rfl⟩ := List.mem_iff_getElem.1 hp
  obtain ⟨hP, _, _, hl⟩ := hf i _ (List.getElem?_eq_getElem hi)
  obtain ⟨j, hj, rfl⟩ := List.mem_iff_getElem.1 hx
  by_cases hj1 : j + 1 < (L[i]).length
  ·have := hP.2.2.2.2 j hj1
   rw [getD_at hj] at this
   obtain ⟨k1, k2⟩ := adj_left h.wf this
   exact (live_end h k1 k2).1
  ·have := hP.2.2.2.2 (j - 1) (by omega)
   rw [show j - 1 + 1 = j by omega, getD_at hj] at this
   obtain ⟨k1, k2⟩ := adj_left h.wf this
   exact (live_end h k1 k2).2.1
 have nod : ∀ p ∈ L, (bigP r p).Nodup := fun p hp => by
  obtain ⟨i, hi, rfl⟩ := List.mem_iff_getElem.1 hp
  exact big_nodup h.val (hf i _ (List.getElem?_eq_getElem hi)).1.2.2.2.1 (alive _ hp)
 refine ⟨by simpa [shapeP] using hsh, fun i p hp => ?_, ?_⟩
 ·rw [List.getElem?_map] at hp
  obtain ⟨q, hq, rfl⟩ := Option.map_eq_some_iff.1 hp
  obtain ⟨hP, h1, h2, h3⟩ := hf i q hq
  have hqm := List.mem_of_getElem? hq
  have hl := big_len r q
  have hq0 : 0 < q.length := List.length_pos_iff.2 hP.2.1
  refine ⟨⟨hR, fun k => ?_, by rw [(big_ends r q).1]; exact hP.2.2.1, nod q hqm, big_steps hk fun i hi => ?_⟩, by rw [(big_ends r q).1]; exact h1, by rw [(big_ends r q).2]; exact h2, by omega⟩
  ·rw [k, List.length_nil] at hl; omega
  ·obtain ⟨k1, k2⟩ := adj_left h.wf (hP.2.2.2.2 i hi)
   exact h.cur _ _ k1 k2
 ·intro p hp v hv
  obtain ⟨i, hi, rfl⟩ := List.mem_iff_getElem.1 hp
  rw [List.length_map] at hi
  rw [List.getElem_map] at hv
  have hq := List.getElem?_eq_getElem hi
  obtain ⟨q, hqe⟩ : ∃ q, L[i] = q := ⟨_, rfl⟩
  rw [hqe] at hv hq
  have hqm := List.mem_of_getElem? hq
  have hnd := nod q hqm
  have hvb := innerL_mem hv
  have hve := ends_out hnd hv
  rw [(big_ends r q).1, (big_ends r q).2] at hve
  rcases big_mem hvb with hvq | ⟨s, hs, hvs⟩
  ·rw [flat_big (alive q hqm v hvq)]
   exact ha q hqm v (inner_mem hvq hve.1 hve.2)
  ·refine cnt_one (i := i) (p := bigP r q) (by rw [List.getElem?_map, hq]; rfl) ?_ fun j y hy hj hvy => ?_
   ·have := List.nodup_iff_count.1 hnd v
    have := List.count_pos_iff.2 hvb
    omega
   ·rw [List.getElem?_map] at hy
    obtain ⟨z, hz, rfl⟩ := Option.map_eq_some_iff.1 hy
    have hzm := List.mem_of_getElem? hz
    rcases big_mem hvy with hvz | ⟨t, ht, hvt⟩
    ·exact alive z hzm v hvz (pth_mem hvs)
    ·exact pth_apart h.val (alive q hqm _ (getD_mem (by omega))) (alive q hqm _ (getD_mem hs)) (alive z hzm _ (getD_mem (by omega))) (alive z hzm _ (getD_mem ht)) (pairs_apart hS hq hz (fun e => hj e.symm) hs ht) hvs hvt
end Go.Sh
namespace Go.Sh
open Go.Proofs Go.RowKit
attribute [local go_sem] Oper.semAt_some
theorem tSI : Tryz.prog.underlying 28 = some (TypeDesc.slice 3) := by kernel_rfl
theorem iSI : (Tryz.prog.info? 3).map (fun i => (i.zero, i.size, i.bytes)) = some (some (.int .i64 0), 1, 8) := by kernel_rfl
set_option maxRecDepth 100000 in
set_option maxHeartbeats 2000000 in
theorem clone_emptyI (A : Option Addr) (c : Nat) (w : World) : Calls Tryz.prog 55 #[.slice A 0 c] w fun e w' => ∃ B c', e = .returned (.slice B 0 c') /\ Frm (fun _ => False) w w' /\ ((B = none /\ c' = 0) \/ ∃ gb cur T, B = some ⟨gb, 0, none⟩ /\ w.heap.size <= gb /\ w'.heap[gb]? = some (.cells cur T (0, 0)) /\ c' <= cur.size /\ c' <= 9223372036854775807) := by
 have t22 := tSI
 obtain ⟨i0, hi, hz0, hz1, hz2⟩ := info_parts iSI
 have q22 : ∀ (w : World) (a : Option Addr) (n c n' c' : Nat), (binOp .eql 28 (.slice a n c) (.slice none n' c')).run Tryz.prog w = .ok (.bool a.isNone) w := fun w a n c n' c' => Lib.run_eql_slice_nil w _ _ a n c n' c' tSI
 have u22 : ∀ w, Sem.run Tryz.prog (underlying 28) w = .ok (TypeDesc.slice 3) w := run_underlying t22
 refine (callsIn_wide (n := 6)).1 ?_
 refine callsIn_of_wp Tryz.func55 rfl trivial ?_ rfl
 simp only [Tryz.ntmps55, List.size_toArray, List.length_cons, List.length_nil, Nat.reduceAdd, Nat.reduceSub, Array.replicate_succ, Array.replicate_zero, List.push_toArray, List.append_toArray, List.nil_append, List.cons_append]
 cases A with
 | none =>
  gi_wp2
  go_ret
  exact ⟨_, _, rfl, Frm.refl _ _, .inl ⟨rfl, rfl⟩⟩
 | some a =>
  gi_wp2_with (gi_at_builtin; refine wpListIn_append_own _ rfl _ _ 28 rfl w.heap.size 3 i0 _ 1 8 t22 hi hz0 hz1 hz2 rfl (by decide) _ _ _ rfl (World.ownsRow_made w #[] 0 (Nat.le_refl _) (Nat.zero_le _) rfl) a 0 c [] rfl rfl (by intro j u hj; simp at hj) (by intro u hu; cases hu) (by unfold maxLen; omega) (by omega) (by simp) ?_)
  intro v' w1 hown hgrow hnil
  gi_wp2
  go_ret
  have hb : Below w.heap.size w w1 := ((Below.refl _ w).alloc (Nat.le_refl _) _).grown hgrow (by simp) (by intro k hk; simp [Value.ownBlock] at hk; omega)
  have hf : Frm (fun _ => False) w w1 := ⟨hb.os, .of hb.tape, hb.output, hb.size, fun b h _ => hb.block b h⟩
  rcases hown.2 with ⟨rfl, _⟩ | ⟨gb, cap', cur, rfl, hbase, hgb, r1, r2, r3, r4⟩
  ·exact ⟨_, _, rfl, hf, .inl ⟨rfl, rfl⟩⟩
  ·refine ⟨_, _, rfl, hf, .inr ⟨gb, cur, _, rfl, hbase, hgb, ?_, ?_⟩⟩
   ·omega
   ·unfold maxLen at *; omega
noncomputable def CloneCI : Con := conP 1 (fun l : List Int => l.length <= 1000000) (fun l => [.one (.flat false 1 (ints l))]) (fun l => .one (.flat true 1 (ints l)))
theorem CloneC_atI {l : List Int} (h : l.length <= 1000000) : CloneCI.F [.one (.flat false 1 (ints l))] = some (.one (.flat true 1 (ints l)), []) :=
 conP_at (a := l) (fun a b _ _ h => by simp at h; rw [ints_inj h]) h
theorem Clone_pI : SoundP Tryz.prog 55 (conF (fun l : List Int => l.length <= 1000000) (fun l => [.one (.flat false 1 (ints l))]) (fun l => .one (.flat true 1 (ints l)))) := by
 have hfull : SoundP Tryz.prog 55 (conF (fun l : List Int => l.length <= 1000000 /\ l ≠ []) (fun l => [.one (.flat false 1 (ints l))]) (fun l => .one (.flat true 1 (ints l)))) := by
  refine con_pure (X := { Γ := [], T := T, nt := 8 }) cr_none hmix hT sound_nil Tryz.func55 (by rfl) (by rfl) (by rfl) 1 ?_
  rintro l ⟨hl, hne⟩
  refine two_le ?_
  have hpos : 0 < l.length := List.length_pos_iff.2 hne
  refine Pick.T (by rw [ints_length]; simpa using hpos) ?_
  refine Pick.T (by simp [cut, ints_length]; omega) ?_
  exact ⟨rfl, rfl, rfl⟩
 intro vs r outs hF w us hus
 obtain ⟨l, hl, rfl, rfl⟩ := conF_inv (pre := fun l : List Int => l.length <= 1000000) (enc := fun l => [.one (.flat false 1 (ints l))]) (val := fun l => .one (.flat true 1 (ints l))) hF
 by_cases hne : l = []
 ·subst hne
  obtain ⟨u, hu, x, hx, hFl⟩ : ∃ u, us = #[u] /\ CellOk w noLab 0 (.flat false 1 (ints [])) u := by
   obtain ⟨us⟩ := us
   match us, hus with
   | [u], hus => exact ⟨u, rfl, hus.1⟩
   | [], hus => exact hus.elim
   | _ :: _ :: _, hus => exact hus.2.elim
  subst hu
  subst hx
  refine (clone_emptyI x.A x.c w).mono ?_
  rintro e w' ⟨B, c', rfl, hf, hB⟩
  rcases hB with ⟨rfl, rfl⟩ | ⟨gb, cur, T', rfl, h1, h2, h3, h4⟩
  ·exact ⟨_, noLab, rfl, hf, fun b k h => by simp [noLab] at h, ⟨⟨none, 0, fun _ => none, fun _ => 0⟩, rfl, FlatOk.nil (by omega)⟩⟩
  ·have hlt : gb < w'.heap.size := by
    rcases Nat.lt_or_ge gb w'.heap.size with h | h
    ·exact h
    ·simp [Array.getElem?_eq_none h] at h2
   refine ⟨_, fun b => if b = gb then some (0, none) else none, rfl, hf, fun b k h => ?_, ⟨⟨some ⟨gb, 0, none⟩, c', fun _ => none, fun _ => 0⟩, rfl, ?_⟩⟩
   ·dsimp only at h
    split at h
    ·rename_i e; subst e; exact ⟨h1, hlt⟩
    ·simp at h
   ·exact { fits := Nat.zero_le _, pos := by omega, even := fun i row h => by simp [ints] at h, cell := fun i row j x h => by simp [ints] at h, room := fun _ => .inr ⟨gb, 0, cur, T', rfl, if_pos rfl, h2, by dsimp only; omega, h4⟩ }
 ·exact hfull _ _ _ (conF_at (fun a b _ _ h => by simp at h; rw [ints_inj h]) ⟨hl, hne⟩) w us hus
theorem Clone_okI : SoundC Tryz.prog T 55 CloneCI := sound_pure Tryz.func55 (by rfl) (by rfl) (by simp [CloneCI, conP]) Clone_pI
end Go.Sh
namespace Go.Sh
open Go.Proofs
noncomputable def ModC : Con := conP 1 (fun a : Int × List Int × List (List Int) => fewL a.2.2) (fun a => [sbV false a.1 a.2.1 a.2.2]) (fun a => moV true (modF a.1 a.2.1 a.2.2).1 (modF a.1 a.2.1 a.2.2).2)
theorem ModC_at {k : Int} {Ts : List Int} {L : List (List Int)} (h : fewL L) : ModC.F [sbV false k Ts L] = some (moV true (modF k Ts L).1 (modF k Ts L).2, []) :=
 conP_at (a := (k, Ts, L)) (fun a b _ _ h => by
  obtain ⟨k, Ts, L⟩ := a
  obtain ⟨k', Ts', L'⟩ := b
  simp at h
  obtain ⟨rfl, rfl, rfl⟩ := sbV_inj h
  rfl) h
theorem inner_cut (p : List Int) : cut (some (1, p.length - 1 - 1)) (ints p) = ints (innerL p) := by
 show ((ints p).drop 1).take (p.length - 1 - 1) = ints (innerL p)
 unfold innerL ints
 rw [<- List.map_drop, <- List.map_take, List.dropLast_eq_take, List.length_drop]
def setsA (Ts : List Int) (L : List (List Int)) (i : Nat) : List (List Int) := (List.range Ts.length).map fun t => Ts.getD t 0 :: ((List.range i).filter fun j => fromT 1 j == t).flatMap fun j => innerL (L.getD j [])
def setsB2 (Ts : List Int) (L : List (List Int)) (i : Nat) : List (List Int) := Ts.map (fun v => [v]) ++ (L.take i).map innerL
theorem setsA_zero (Ts : List Int) (L : List (List Int)) : setsA Ts L 0 = Ts.map fun v => [v] := by
 apply List.ext_getElem
 ·simp [setsA]
 ·intro i h1 h2
  simp [setsA] at h1 ⊢
  rw [List.getElem?_eq_getElem h1]; rfl
theorem setsA_len (Ts : List Int) (L : List (List Int)) (i : Nat) : (setsA Ts L i).length = Ts.length := by simp [setsA]
theorem setsA_get {Ts : List Int} {L : List (List Int)} {i t : Nat} (h : t < Ts.length) : (setsA Ts L i)[t]? = some (Ts.getD t 0 :: ((List.range i).filter fun j => fromT 1 j == t).flatMap fun j => innerL (L.getD j [])) := by
 unfold setsA
 rw [List.getElem?_map, List.getElem?_range h]; rfl
theorem setsA_set {Ts : List Int} {L : List (List Int)} {i t : Nat} (h : t < Ts.length) (ht : fromT 1 i = t) : (setsA Ts L i).set t ((Ts.getD t 0 :: ((List.range i).filter fun j => fromT 1 j == t).flatMap fun j => innerL (L.getD j [])) ++ innerL (L.getD i [])) = setsA Ts L (i + 1) := by
 apply List.ext_getElem?
 intro x
 rw [List.getElem?_set]
 by_cases h1 : t = x
 ·subst h1
  rw [if_pos rfl, if_pos (by rw [setsA_len]; exact h), setsA_get h, List.range_succ, List.filter_append]
  simp [ht]
 ·rw [if_neg h1]
  by_cases h2 : x < Ts.length
  ·rw [setsA_get h2, setsA_get h2, List.range_succ, List.filter_append]
   have : (fromT 1 i == x) = false := by rw [ht]; simpa using h1
   simp [this]
  ·rw [List.getElem?_eq_none (by rw [setsA_len]; omega), List.getElem?_eq_none (by rw [setsA_len]; omega)]
theorem setsB2_zero (Ts : List Int) (L : List (List Int)) : setsB2 Ts L 0 = Ts.map fun v => [v] := by simp [setsB2]
theorem setsB2_succ {Ts : List Int} {L : List (List Int)} {i : Nat} (h : i < L.length) : setsB2 Ts L (i + 1) = setsB2 Ts L i ++ [innerL L[i]] := by
 unfold setsB2
 rw [List.take_succ_eq_append_getElem h, List.map_append, <- List.append_assoc]; rfl
theorem modF_no {k : Int} {Ts : List Int} {L : List (List Int)} (h : ¬ (shapeP k Ts L /\ ∀ p ∈ L, 2 <= p.length)) : modF k Ts L = (0, []) := if_neg h
set_option maxHeartbeats 4000000 in
theorem Mod_ok : SoundC Tryz.prog T 21 ModC := by
 refine sound_con (X := { Γ := [(54, TopsC), (55, CloneCI)], T := T, nt := 99, ext := [53] }) (new_ok Tryz.pairs_call) hmix hT (sound_cons Tops_ok (sound_cons Clone_okI sound_nil)) Tryz.func21 (by rfl) (by rfl) (by rfl) (by rfl) 3 ?_
 rintro ⟨k, Ts, L⟩ ⟨hL, hLr⟩
 dsimp only at hL hLr ⊢
 refine two_le ?_
 by_cases hk : k = 1 \/ k = 2
 ·have hpr : Tryz.prsR k = some (2, edges (prsT k)) := if_pos hk
  refine ⟨rfl, _, some (2, edges (prsT k)), rfl, congrArg some hpr, ?_⟩
  have hpl := prsT_len hk
  have hp6 : 0 < (prsT k).length /\ (prsT k).length <= 6 := by rw [hpl]; split <;> omega
  refine Pick.T (by rw [edges_length]; simpa using hp6.1) ?_
  refine Call.by _ _ (TopsC_at k) ?_
  refine Pick.by (fun h1 => ?_) (fun h1 => ?_)
  ·have h1 : ¬ (Ts.length : Int) = (if k = 1 then 4 else 2) := by simpa [ints_length] using h1
   refine Seg.by (by kernel_rfl) ?_
   have hv := modF_no (k := k) (Ts := Ts) (L := L) (fun h => h1 ((shape_iff hk).1 h.1).1)
   dsimp only
   rw [hv]
   exact ⟨rfl, rfl, ⟨rfl, rfl⟩, trivial⟩
  have h1 : (Ts.length : Int) = (if k = 1 then 4 else 2) := by simpa [ints_length] using h1
  refine Seg.by (by kernel_rfl) ?_
  refine Pick.by (fun h2 => ?_) (fun h2 => ?_)
  ·have h2 : ¬ L.length = (prsT k).length := by intro e; rw [rowsI_length, edges_length, e] at h2; simp at h2
   have hv := modF_no (k := k) (Ts := Ts) (L := L) (fun h => h2 ((shape_iff hk).1 h.1).2)
   dsimp only
   rw [hv]
   exact ⟨rfl, rfl, ⟨rfl, rfl⟩, trivial⟩
  have h2 : L.length = (prsT k).length := by
   have h2 : ((L.length : Nat) : Int) = ((prsT k).length : Nat) := by simpa [rowsI_length, edges_length] using h2
   omega
  have hsh : shapeP k Ts L := (shape_iff hk).2 ⟨h1, h2⟩
  have hT4 : Ts.length <= 4 := by split at h1 <;> omega
  rcases hk with rfl | rfl
  ·refine LoopP.intro (α := Nat) (fun i => i <= Ts.length) (fun i => Ts.length - i) (fun i => [(1, .ptr 0 0), (2, .ptr 3 0), (3, .sl 4 none none), (4, .ptr 5 0), (37, .sl 1 none none), (38, .s (.i .i64 Ts.length)), (39, .s (.i .i64 i))])
    (fun i => [(0, some (.blk [.s (.i .i64 1), .sl 1 none none, .sl 2 none none])), (1, some (.flat false 1 (ints Ts))), (2, some (.nest false 1 (rowsI L) [] [])), (3, some (.blk [.s (.i .i64 0), .nils])), (4, some (.flat true 2 (edges (prsT 1)))), (5, some (.blk [.s (.i .i64 1), .sl 6 none none])), (6, some (.nest true 1 (rowsI ((Ts.take i).map fun v => [v])) [] []))]) 7 0 (by omega) (by refine Weak.bw [(0, some _), (1, some _), (2, some _), (3, some _), (4, some _), (5, some _), (6, none)] (by ((repeat' first | exact rfl | exact trivial | apply And.intro) <;> (repeat' first | exact rfl | exact trivial | apply And.intro)); all_goals (exact sc_eq (by rw [ints_length])))) ?_
   rintro i hi
   refine Pick.by (fun hc => ?_) (fun hc => ?_)
   ·have hlt : i < Ts.length := by have := of_decide_eq_true hc; omega
    have hst : rowsI ((Ts.take (i + 1)).map fun v => [v]) = rowsI ((Ts.take i).map fun v => [v]) ++ [ints [Ts[i]]] := by rw [List.take_succ_eq_append_getElem hlt, List.map_append, <- rowsI_snoc]; rfl
    refine Idx.by i rfl (by rw [ints_length]; exact hlt) ?_
    refine Look.by _ (ints_get (List.getElem?_eq_getElem hlt)) ?_
    refine Pick.T (decide_eq_true (by rw [rowsI_length, List.length_map, List.length_take]; simp only [List.length_cons, List.length_nil]; omega)) ?_
    refine Pick.n ?_
    refine Next.by (i + 1) (by omega) (by omega) (by refine Weak.bw [(0, some _), (1, some _), (2, some _), (3, some _), (4, some _), (5, some _), (6, some _)] (by ((repeat' first | exact rfl | exact trivial | apply And.intro) <;> (repeat' first | exact rfl | exact trivial | apply And.intro)); all_goals ((first | (rw [hst]; rfl) | (simp; done)))))
   have hge : Ts.length <= i := by have := of_decide_eq_false hc; omega
   rw [List.take_of_length_le hge]
   refine LoopP.intro (α := Nat) (fun i => i <= L.length /\ ∀ p ∈ L.take i, 2 <= p.length) (fun i => L.length - i) (fun i => [(1, .ptr 0 0), (2, .ptr 3 0), (3, .sl 4 none none), (4, .ptr 5 0), (52, .sl 2 none none), (53, .s (.i .i64 L.length)), (54, .s (.i .i64 i))])
    (fun i => [(0, some (.blk [.s (.i .i64 1), .sl 1 none none, .sl 2 none none])), (1, some (.flat false 1 (ints Ts))), (2, some (.nest false 1 (rowsI L) [] [])), (3, some (.blk [.s (.i .i64 0), .nils])), (4, some (.flat true 2 (edges (prsT 1)))), (5, some (.blk [.s (.i .i64 1), .sl 6 none none])), (6, some (.nest true 1 (rowsI (setsA Ts L i)) [] []))]) 7 0 ⟨by omega, by simp⟩ (by refine Weak.bw [(0, some _), (1, some _), (2, some _), (3, some _), (4, some _), (5, some _), (6, some _)] (by ((repeat' first | exact rfl | exact trivial | apply And.intro) <;> (repeat' first | exact rfl | exact trivial | apply And.intro)); all_goals ((first | exact sc_eq (by rw [rowsI_length]) | (rw [setsA_zero]; done) | (rw [setsA_zero]; rfl) | (simp; done))))) ?_
   rintro i ⟨hi, hall⟩
   refine Pick.by (fun hc => ?_) (fun hc => ?_)
   ·have hlt : i < L.length := by have := of_decide_eq_true hc; omega
    obtain ⟨p, hp⟩ : ∃ p, L[i] = p := ⟨_, rfl⟩
    have hpm : p ∈ L := by rw [<- hp]; exact List.getElem_mem hlt
    have hpl := hLr p hpm
    have hLp : L[i]? = some p := by rw [List.getElem?_eq_getElem hlt, hp]
    have hpg : (rowsI L)[i]? = some (ints p) := rowsI_get hLp
    refine Idx.by i rfl (by rw [rowsI_length]; exact hlt) ?_
    refine Pick.T (by simpa [rowsI_length] using hlt) ?_
    refine Look.by _ hpg ?_
    refine Pick.by (fun h3 => ?_) (fun h3 => ?_)
    ·have h3 : p.length < 2 := by have := of_decide_eq_true h3; rw [ints_length] at this; omega
     have hv := modF_no (k := 1) (Ts := Ts) (L := L) (fun h => by have := h.2 p hpm; omega)
     dsimp only
     rw [hv]
     exact ⟨rfl, rfl, ⟨rfl, rfl⟩, trivial⟩
    have h3 : 2 <= p.length := by have := of_decide_eq_false h3; rw [ints_length] at this; omega
    have hall2 : ∀ p ∈ L.take (i + 1), 2 <= p.length := all_take hlt hall (by rw [hp]; exact h3)
    refine Look.by _ hpg ?_
    refine Pick.T (inI64_of (by rw [ints_length]; omega) (by rw [ints_length]; omega)) ?_
    refine Look.by _ hpg ?_
    refine Rng.by 1 (p.length - 1) rfl (by rw [ints_length]; omega) (by omega) (by rw [ints_length]; omega) ?_
    refine Look.by _ hpg ?_
    have hcl := CloneC_atI (l := innerL p) (by rw [innerL_length]; omega)
    rw [<- inner_cut] at hcl
    refine Call.by _ _ hcl ?_
    rw [inner_cut]
    have hi6 : i < (prsT 1).length := by omega
    obtain ⟨⟨qa, qb⟩, hq⟩ : ∃ q, (prsT 1)[i] = q := ⟨_, rfl⟩
    have hqi := prsT_in (k := 1) (.inl rfl) (List.getElem_mem hi6)
    rw [hq] at hqi
    dsimp only at hqi
    have hqe : (edges (prsT 1))[i]? = some [.i .i64 qa, .i .i64 qb] := edges_get (by rw [List.getElem?_eq_getElem hi6, hq])
    have hft : fromT 1 i = qa.toNat := by unfold fromT; rw [List.getD_eq_getElem?_getD, List.getElem?_eq_getElem hi6, hq]; rfl
    have ht4 : Ts.length = 4 := by have h1 : (Ts.length : Int) = 4 := h1; omega
    have hqt : qa.toNat < Ts.length := by have := hqi.1.2; simp at this; omega
    obtain ⟨R0, hR0⟩ : ∃ R0, (Ts.getD qa.toNat 0 :: ((List.range i).filter fun j => fromT 1 j == qa.toNat).flatMap fun j => innerL (L.getD j [])) = R0 := ⟨_, rfl⟩
    have hro : (rowsI (setsA Ts L i))[qa.toNat]? = some (ints R0) := rowsI_get (by rw [setsA_get hqt, hR0])
    have hst : (rowsI (setsA Ts L i)).set qa.toNat (ints R0 ++ ints (innerL p)) = rowsI (setsA Ts L (i + 1)) := by
     rw [<- setsA_set (L := L) hqt hft, hR0, rowsI_set, ints_append]
     congr 2
     rw [List.getD_eq_getElem?_getD, hLp]; rfl
    have hrl : (rowsI (setsA Ts L i)).length = Ts.length := by rw [rowsI_length, setsA_len]
    have hR0l : R0.length <= 50000 := by
     rw [<- hR0, List.length_cons]
     have : ∀ l : List Nat, (l.flatMap fun j => innerL (L.getD j [])).length <= l.length * 5000 := fun l => by
      induction l with
      | nil => simp
      | cons x l ih =>
       rw [List.flatMap_cons, List.length_append, List.length_cons, Nat.succ_mul]
       have : (innerL (L.getD x [])).length <= 5000 := by
        rw [innerL_length, List.getD_eq_getElem?_getD]
        cases hx : L[x]? with
        | none => simp
        | some y => have := hLr y (List.mem_of_getElem? hx); simp; omega
       omega
     have h1 := this ((List.range i).filter fun j => fromT 1 j == qa.toNat)
     have h2 : ((List.range i).filter fun j => fromT 1 j == qa.toNat).length <= i := Nat.le_trans (List.length_filter_le _ _) (by simp)
     have h3 := Nat.mul_le_mul_right 5000 h2
     omega
    refine Idx.by i rfl (by rw [edges_length]; exact hi6) ?_
    refine Idx.by 0 rfl (by decide) ?_
    refine Look.by _ hqe ?_
    refine Idx.by i rfl (by rw [edges_length]; exact hi6) ?_
    refine Idx.by 0 rfl (by decide) ?_
    refine Look.by _ hqe ?_
    refine Idx.by qa.toNat (by show qa = _; omega) (by rw [hrl]; exact hqt) ?_
    refine Pick.T (by rw [hrl]; simpa using hqt) ?_
    refine Look.by _ hro ?_
    refine Pick.T (by simp [cut, ints_length, innerL_length]; omega) ?_
    refine Idx.by qa.toNat (by show qa = _; omega) (by rw [hrl]; exact hqt) ?_
    refine Pick.T (by rw [hrl]; simpa using hqt) ?_
    refine Pick.T (by simp) ?_
    refine Seg.by (by kernel_rfl) ?_
    refine Pick.n ?_
    refine Next.by (i + 1) ⟨by omega, hall2⟩ (by omega) (by refine Weak.bw [(0, some _), (1, some _), (2, some _), (3, some _), (4, some _), (5, some _), (6, some _)] (by ((repeat' first | exact rfl | exact trivial | apply And.intro) <;> (repeat' first | exact rfl | exact trivial | apply And.intro)); all_goals ((first | (rw [<- hst]; rfl) | (simp; done)))))
   have hge : L.length <= i := by have := of_decide_eq_false hc; omega
   rw [List.take_of_length_le hge] at hall
   have hil : i = L.length := by omega
   have hv : modF 1 Ts L = (1, setsA Ts L i) := by
    unfold modF
    rw [if_pos ⟨hsh, hall⟩, hil]
    rfl
   dsimp only
   rw [hv]
   exact ⟨rfl, rfl, ⟨rfl, rfl⟩, trivial⟩
  ·refine LoopP.intro (α := Nat) (fun i => i <= Ts.length) (fun i => Ts.length - i) (fun i => [(1, .ptr 0 0), (2, .ptr 3 0), (3, .sl 4 none none), (4, .ptr 5 0), (37, .sl 1 none none), (38, .s (.i .i64 Ts.length)), (39, .s (.i .i64 i))])
    (fun i => [(0, some (.blk [.s (.i .i64 2), .sl 1 none none, .sl 2 none none])), (1, some (.flat false 1 (ints Ts))), (2, some (.nest false 1 (rowsI L) [] [])), (3, some (.blk [.s (.i .i64 0), .nils])), (4, some (.flat true 2 (edges (prsT 2)))), (5, some (.blk [.s (.i .i64 2), .sl 6 none none])), (6, some (.nest true 1 (rowsI ((Ts.take i).map fun v => [v])) [] []))]) 7 0 (by omega) (by refine Weak.bw [(0, some _), (1, some _), (2, some _), (3, some _), (4, some _), (5, some _), (6, none)] (by ((repeat' first | exact rfl | exact trivial | apply And.intro) <;> (repeat' first | exact rfl | exact trivial | apply And.intro)); all_goals (exact sc_eq (by rw [ints_length])))) ?_
   rintro i hi
   refine Pick.by (fun hc => ?_) (fun hc => ?_)
   ·have hlt : i < Ts.length := by have := of_decide_eq_true hc; omega
    have hst : rowsI ((Ts.take (i + 1)).map fun v => [v]) = rowsI ((Ts.take i).map fun v => [v]) ++ [ints [Ts[i]]] := by rw [List.take_succ_eq_append_getElem hlt, List.map_append, <- rowsI_snoc]; rfl
    refine Idx.by i rfl (by rw [ints_length]; exact hlt) ?_
    refine Look.by _ (ints_get (List.getElem?_eq_getElem hlt)) ?_
    refine Pick.T (decide_eq_true (by rw [rowsI_length, List.length_map, List.length_take]; simp only [List.length_cons, List.length_nil]; omega)) ?_
    refine Pick.n ?_
    refine Next.by (i + 1) (by omega) (by omega) (by refine Weak.bw [(0, some _), (1, some _), (2, some _), (3, some _), (4, some _), (5, some _), (6, some _)] (by ((repeat' first | exact rfl | exact trivial | apply And.intro) <;> (repeat' first | exact rfl | exact trivial | apply And.intro)); all_goals ((first | (rw [hst]; rfl) | (simp; done)))))
   have hge : Ts.length <= i := by have := of_decide_eq_false hc; omega
   rw [List.take_of_length_le hge]
   refine LoopP.intro (α := Nat) (fun i => i <= L.length /\ ∀ p ∈ L.take i, 2 <= p.length) (fun i => L.length - i) (fun i => [(1, .ptr 0 0), (2, .ptr 3 0), (3, .sl 4 none none), (4, .ptr 5 0), (52, .sl 2 none none), (53, .s (.i .i64 L.length)), (54, .s (.i .i64 i))])
    (fun i => [(0, some (.blk [.s (.i .i64 2), .sl 1 none none, .sl 2 none none])), (1, some (.flat false 1 (ints Ts))), (2, some (.nest false 1 (rowsI L) [] [])), (3, some (.blk [.s (.i .i64 0), .nils])), (4, some (.flat true 2 (edges (prsT 2)))), (5, some (.blk [.s (.i .i64 2), .sl 6 none none])), (6, some (.nest true 1 (rowsI (setsB2 Ts L i)) [] []))]) 7 0 ⟨by omega, by simp⟩ (by refine Weak.bw [(0, some _), (1, some _), (2, some _), (3, some _), (4, some _), (5, some _), (6, some _)] (by ((repeat' first | exact rfl | exact trivial | apply And.intro) <;> (repeat' first | exact rfl | exact trivial | apply And.intro)); all_goals ((first | exact sc_eq (by rw [rowsI_length]) | (rw [setsB2_zero]; done) | (rw [setsB2_zero]; rfl) | (simp; done))))) ?_
   rintro i ⟨hi, hall⟩
   refine Pick.by (fun hc => ?_) (fun hc => ?_)
   ·have hlt : i < L.length := by have := of_decide_eq_true hc; omega
    obtain ⟨p, hp⟩ : ∃ p, L[i] = p := ⟨_, rfl⟩
    have hpm : p ∈ L := by rw [<- hp]; exact List.getElem_mem hlt
    have hpl := hLr p hpm
    have hLp : L[i]? = some p := by rw [List.getElem?_eq_getElem hlt, hp]
    have hpg : (rowsI L)[i]? = some (ints p) := rowsI_get hLp
    refine Idx.by i rfl (by rw [rowsI_length]; exact hlt) ?_
    refine Pick.T (by simpa [rowsI_length] using hlt) ?_
    refine Look.by _ hpg ?_
    refine Pick.by (fun h3 => ?_) (fun h3 => ?_)
    ·have h3 : p.length < 2 := by have := of_decide_eq_true h3; rw [ints_length] at this; omega
     have hv := modF_no (k := 2) (Ts := Ts) (L := L) (fun h => by have := h.2 p hpm; omega)
     dsimp only
     rw [hv]
     exact ⟨rfl, rfl, ⟨rfl, rfl⟩, trivial⟩
    have h3 : 2 <= p.length := by have := of_decide_eq_false h3; rw [ints_length] at this; omega
    have hall2 : ∀ p ∈ L.take (i + 1), 2 <= p.length := all_take hlt hall (by rw [hp]; exact h3)
    refine Look.by _ hpg ?_
    refine Pick.T (inI64_of (by rw [ints_length]; omega) (by rw [ints_length]; omega)) ?_
    refine Look.by _ hpg ?_
    refine Rng.by 1 (p.length - 1) rfl (by rw [ints_length]; omega) (by omega) (by rw [ints_length]; omega) ?_
    refine Look.by _ hpg ?_
    have hcl := CloneC_atI (l := innerL p) (by rw [innerL_length]; omega)
    rw [<- inner_cut] at hcl
    refine Call.by _ _ hcl ?_
    rw [inner_cut]
    refine Pick.T (decide_eq_true (by rw [rowsI_length]; simp only [setsB2, List.length_append, List.length_map, List.length_take, List.length_cons, List.length_nil]; omega)) ?_
    refine Pick.n ?_
    refine Next.by (i + 1) ⟨by omega, hall2⟩ (by omega) (by refine Weak.bw [(0, some _), (1, some _), (2, some _), (3, some _), (4, some _), (5, some _), (6, some _)] (by ((repeat' first | exact rfl | exact trivial | apply And.intro) <;> (repeat' first | exact rfl | exact trivial | apply And.intro)); all_goals ((rw [setsB2_succ hlt, hp, <- rowsI_snoc]))))
   have hge : L.length <= i := by have := of_decide_eq_false hc; omega
   rw [List.take_of_length_le hge] at hall
   have hil : i = L.length := by omega
   have hv : modF 2 Ts L = (2, setsB2 Ts L i) := by
    unfold modF
    rw [if_pos ⟨hsh, hall⟩, hil]
    unfold setsB2; rw [if_neg (by decide), List.take_length]
   dsimp only
   rw [hv]
   exact ⟨rfl, rfl, ⟨rfl, rfl⟩, trivial⟩
 ·have hpr : Tryz.prsR k = none := if_neg hk
  refine ⟨rfl, _, none, rfl, congrArg some hpr, ?_⟩
  refine Seg.by (by kernel_rfl) ?_
  have hv := modF_no (k := k) (Ts := Ts) (L := L) (fun h => hk (by rcases h.1 with h | h; exact .inl h.1; exact .inr h.1))
  dsimp only
  rw [hv]
  exact ⟨rfl, rfl, ⟨rfl, rfl⟩, trivial⟩
end Go.Sh
namespace Go.Sh
open Go.Proofs Go.Sort Go.Shelf Go.RowKit
theorem segsR_length (p : List Int) : (segsR p).length = p.length - 1 := by simp [segsR]
end Go.Sh
namespace Go.Sh
open Go.Proofs
end Go.Sh
namespace Go.Sh
open Go.Proofs Go.Shelf Go.RowKit
end Go.Sh
namespace Go.Sh
open Go.Proofs
instance (E : List Ed) (a b : Int) : Decidable (adjE E a b) := by unfold adjE; exact inferInstance
theorem edN_eq {a b c d : Int} (h : edN (a, b) = edN (c, d)) : (a = c /\ b = d) \/ (a = d /\ b = c) := by
 unfold edN mnI mxI at h
 dsimp only at h
 injection h with h1 h2
 split at h1 <;> split at h1 <;> split at h2 <;> split at h2 <;> omega
theorem mem_segsR {p : List Int} {x : Ed} : x ∈ segsR p ↔ ∃ i, i + 1 < p.length /\ x = edN (p.getD i 0, p.getD (i + 1) 0) := by
 unfold segsR
 rw [List.mem_map]
 constructor
 ·rintro ⟨i, hi, rfl⟩
  rw [List.mem_range] at hi
  exact ⟨i, by omega, rfl⟩
 ·rintro ⟨i, hi, rfl⟩
  exact ⟨i, by rw [List.mem_range]; omega, rfl⟩
theorem getD_inj {p : List Int} (hn : p.Nodup) {i j : Nat} (hi : i < p.length) (hj : j < p.length) (h : p.getD i 0 = p.getD j 0) : i = j := by
 rw [getD_at hi, getD_at hj] at h
 exact (List.getElem_inj hn).1 h
theorem segsR_nodup {p : List Int} (hn : p.Nodup) : (segsR p).Nodup := by
 unfold segsR
 rw [List.nodup_iff_pairwise_ne, List.pairwise_map]
 refine List.Pairwise.imp_of_mem ?_ (List.nodup_iff_pairwise_ne.1 List.nodup_range)
 intro i j hi hj hne e
 rw [List.mem_range] at hi hj
 rcases edN_eq e with ⟨h, _⟩ | ⟨h1, h2⟩
 ·exact hne (getD_inj hn (by omega) (by omega) h)
 ·have := getD_inj hn (by omega) (by omega) h1
  have := getD_inj hn (by omega) (by omega) h2
  omega
theorem seg_two {n : Int} {E : List Ed} {k : Int} {Ts : List Int} {L : List (List Int)} (h : SubP n E k Ts L) {i j : Nat} {p q : List Int} (hp : L[i]? = some p) (hq : L[j]? = some q) (hij : i ≠ j) {x : Ed} (hx : x ∈ segsR p) (hy : x ∈ segsR q) : p.length = 2 := by
 obtain ⟨a, ha, rfl⟩ := mem_segsR.1 hx
 obtain ⟨b, hb, e⟩ := mem_segsR.1 hy
 have hu : p.getD a 0 ∈ q /\ p.getD (a + 1) 0 ∈ q := by
  rcases edN_eq e with ⟨h1, h2⟩ | ⟨h1, h2⟩
  ·rw [h1, h2]; exact ⟨getD_mem (by omega), getD_mem hb⟩
  ·rw [h1, h2]; exact ⟨getD_mem hb, getD_mem (by omega)⟩
 refine Decidable.byContradiction fun hne => ?_
 have hno : ∀ v, v ∈ innerL p -> v ∈ q -> False := fun v hv hvq => by
  have hvp : v ∈ p := by obtain ⟨z, hz, rfl⟩ := mem_inner.1 hv; exact List.getElem_mem _
  have := cnt_at hp hq hij hvp hvq
  have := h.2.2 p (List.mem_of_getElem? hp) v hv
  omega
 cases a with
 | zero =>
  refine hno _ (mem_inner.2 ⟨0, by omega, ?_⟩) hu.2
  rw [getD_at (by omega)]
 | succ a =>
  refine hno _ (mem_inner.2 ⟨a, by omega, ?_⟩) hu.1
  rw [getD_at (by omega)]
theorem prs_inj : ∀ i, i < 6 -> ∀ j, j < 6 -> (((prsT 1).getD i (0, 0)).1 = ((prsT 1).getD j (0, 0)).1 /\ ((prsT 1).getD i (0, 0)).2 = ((prsT 1).getD j (0, 0)).2 -> i = j) /\ ¬ (((prsT 1).getD i (0, 0)).1 = ((prsT 1).getD j (0, 0)).2 /\ ((prsT 1).getD i (0, 0)).2 = ((prsT 1).getD j (0, 0)).1) := by decide
theorem prs_lt : ∀ i, i < 6 -> (0 <= ((prsT 1).getD i (0, 0)).1 /\ ((prsT 1).getD i (0, 0)).1 < 4) /\ 0 <= ((prsT 1).getD i (0, 0)).2 /\ ((prsT 1).getD i (0, 0)).2 < 4 := by decide
theorem segs_apart {n : Int} {E : List Ed} {k : Int} {Ts : List Int} {L : List (List Int)} (h : SubP n E k Ts L) {i j : Nat} {p q : List Int} (hp : L[i]? = some p) (hq : L[j]? = some q) (hij : i ≠ j) {x : Ed} (hx : x ∈ segsR p) (hy : x ∈ segsR q) : False := by
 have hp2 := seg_two h hp hq hij hx hy
 have hq2 := seg_two h hq hp (Ne.symm hij) hy hx
 obtain ⟨P1, hd1, ls1, z1⟩ := h.2.1 i p hp
 obtain ⟨P2, hd2, ls2, z2⟩ := h.2.1 j q hq
 have hnd := sub_tops h
 rcases h.1 with ⟨rfl, hT, hL⟩ | ⟨rfl, hT, hL⟩
 ·have hi : i < 6 := by rw [<- hL]; exact (List.getElem?_eq_some_iff.1 hp).1
  have hj : j < 6 := by rw [<- hL]; exact (List.getElem?_eq_some_iff.1 hq).1
  obtain ⟨a, ha, rfl⟩ := mem_segsR.1 hx
  obtain ⟨b, hb, e⟩ := mem_segsR.1 hy
  obtain rfl : a = 0 := by omega
  obtain rfl : b = 0 := by omega
  rw [headD_at (by omega)] at hd1 hd2
  rw [lastD_at, hp2] at ls1
  rw [lastD_at, hq2] at ls2
  have hd1' := hd1; have ls1' := ls1
  rw [hd1, ls1, hd2, ls2] at e
  have l1 := prs_lt i hi
  have l2 := prs_lt j hj
  obtain ⟨q1, q2⟩ := prs_inj i hi j hj
  rcases edN_eq e with ⟨e1, e2⟩ | ⟨e1, e2⟩
  ·have := getD_inj hnd (by omega) (by omega) e1
   have := getD_inj hnd (by omega) (by omega) e2
   exact hij (q1 ⟨by omega, by omega⟩)
  ·have := getD_inj hnd (by omega) (by omega) e1
   have := getD_inj hnd (by omega) (by omega) e2
   exact q2 ⟨by omega, by omega⟩
 ·omega
theorem segs_nodup {n : Int} {E : List Ed} {k : Int} {Ts : List Int} {L : List (List Int)} (h : SubP n E k Ts L) : (segs L).Nodup := by
 unfold segs
 rw [List.nodup_iff_pairwise_ne, List.pairwise_flatMap]
 refine ⟨fun p hp => ?_, ?_⟩
 ·obtain ⟨i, hi, rfl⟩ := List.mem_iff_getElem.1 hp
  exact List.nodup_iff_pairwise_ne.1 (segsR_nodup (h.2.1 i _ (List.getElem?_eq_getElem hi)).1.2.2.2.1)
 ·rw [List.pairwise_iff_getElem]
  intro i j hi hj hij x hx y hy e
  subst e
  exact segs_apart h (List.getElem?_eq_getElem hi) (List.getElem?_eq_getElem hj) (by omega) hx hy
theorem adj_edN {n : Int} {E : List Ed} (hR : RightP n E) {a b : Int} (h : adjE E a b) : edN (a, b) ∈ E := by
 have hok : ∀ p ∈ E, p.1 < p.2 := fun p hp => (hR.2.2.2.1 p hp).2.1
 unfold edN mnI mxI
 dsimp only
 rcases h with h | h
 ·have := hok _ h
  dsimp only at this
  rw [if_neg (by omega), if_pos (by omega)]
  exact h
 ·have := hok _ h
  dsimp only at this
  rw [if_pos (by omega), if_neg (by omega)]
  exact h
theorem segs_sub {n : Int} {E : List Ed} {k : Int} {Ts : List Int} {L : List (List Int)} (h : SubP n E k Ts L) : ∀ x ∈ segs L, x ∈ E := fun x hx => by
 obtain ⟨p, hp, hxp⟩ := List.mem_flatMap.1 hx
 obtain ⟨i, hi, rfl⟩ := List.mem_iff_getElem.1 hp
 obtain ⟨hP, _⟩ := h.2.1 i _ (List.getElem?_eq_getElem hi)
 obtain ⟨a, ha, rfl⟩ := mem_segsR.1 hxp
 exact adj_edN hP.1 (hP.2.2.2.2 a ha)
theorem nodup_same {α : Type} [DecidableEq α] {l m : List α} (hl : l.Nodup) (hm : m.Nodup) (hs : ∀ x ∈ l, x ∈ m) (he : l.length = m.length) : ∀ x ∈ m, x ∈ l := fun x hx => by
 refine Decidable.byContradiction fun hno => ?_
 have h1 : (x :: l).Nodup := List.nodup_cons.2 ⟨hno, hl⟩
 have := nodup_lenG h1 (m := m) (fun y hy => by rcases List.mem_cons.1 hy with rfl | hy; exact hx; exact hs y hy)
 simp at this
 omega
theorem segs_len (L : List (List Int)) : (segs L).length = usedT L := by
 unfold segs usedT
 rw [List.length_flatMap]
 congr 1
 exact List.map_congr_left fun p _ => segsR_length p
theorem used_perm {L M : List (List Int)} (h : L.Perm M) : usedT L = usedT M := by
 unfold usedT
 induction h with
 | nil => rfl
 | cons x _ ih => simp only [List.map_cons, List.sum_cons, ih]
 | swap x y l => simp only [List.map_cons, List.sum_cons]; omega
 | trans _ _ h1 h2 => exact h1.trans h2
theorem ltE_nodup {E : List Ed} (h : E.Pairwise ltE) : E.Nodup := List.nodup_iff_pairwise_ne.2 (h.imp fun h => ltE_ne h)
theorem len_of_mem {l m : List Int} (hl : l.Nodup) (hm : m.Nodup) (h : ∀ x, x ∈ l ↔ x ∈ m) : l.length = m.length :=
 Nat.le_antisymm (nodup_len hl fun x hx => (h x).1 hx) (nodup_len hm fun x hx => (h x).2 hx)
structure Trl (E : List Ed) (p : List Int) : Prop where
 two : 2 <= p.length
 nd : p.Nodup
 st : stepsE E p
 deg : ∀ i, 1 <= i -> i + 1 < p.length -> (nearL E (p.getD i 0)).length = 2
 last : (nearL E (p.getLastD 0)).length ≠ 2
theorem getD_take {p : List Int} {m i : Nat} (h : i < m) : (p.take m).getD i 0 = p.getD i 0 := by
 rw [List.getD_eq_getElem?_getD, List.getD_eq_getElem?_getD, List.getElem?_take, if_pos h]
theorem trl_go {n : Int} {E : List Ed} (hR : RightP n E) {p : List Int} (h : Trl E p) : ∀ {f m : Nat}, 2 <= m -> m <= p.length -> p.length <= f + m -> goT E f (p.take m) = p := by
 intro f
 induction f with
 | zero =>
  intro m h2 hm hf
  rw [List.take_of_length_le (by omega)]; rfl
 | succ f ih =>
  intro m h2 hm hf
  by_cases he : m = p.length
  ·rw [he, List.take_length]
   exact goT_stop h.last
  ·have hml : (p.take m).length = m := by rw [List.length_take]; omega
   have hlast : (p.take m).getLastD 0 = p.getD (m - 1) 0 := by rw [lastD_at, hml, getD_take (by omega)]
   have hd := h.deg (m - 1) (by omega) (by omega)
   have hstep : nxtT E (p.take m) = p.getD m 0 := by
    unfold nxtT
    rw [hlast, hml, getD_take (by omega)]
    have s1 := h.st (m - 2) (by omega)
    rw [show m - 2 + 1 = m - 1 by omega] at s1
    have s2 := h.st (m - 1) (by omega)
    rw [show m - 1 + 1 = m by omega] at s2
    rcases (two_near hR hd (adj_sym s1)).2.2 _ s2 with e | e
    ·have := getD_inj h.nd (by omega) (by omega) e
     omega
    ·exact e.symm
   rw [goT_step (by rw [hlast]; exact hd), hstep]
   have : p.take m ++ [p.getD m 0] = p.take (m + 1) := by rw [List.take_succ_eq_append_getElem (by omega), getD_at (by omega)]
   rw [this]
   exact ih (by omega) (by omega) (by omega)
theorem trl_path {n : Int} {E : List Ed} (hR : RightP n E) {p : List Int} (h : Trl E p) (hl : p.length <= n.toNat + 2) : pathT n E (p.getD 0 0) (p.getD 1 0) = p := by
 have h2 := h.two
 have : [p.getD 0 0, p.getD 1 0] = p.take 2 := by
  match p, h2 with
  | a :: b :: r, _ => rfl
 unfold pathT
 rw [this]
 exact trl_go hR h (Nat.le_refl _) h2 (by omega)
theorem getD_rev {p : List Int} {i : Nat} (h : i < p.length) : p.reverse.getD i 0 = p.getD (p.length - 1 - i) 0 := by
 rw [List.getD_eq_getElem?_getD, List.getD_eq_getElem?_getD, List.getElem?_reverse h]
theorem steps_rev {E : List Ed} {p : List Int} (h : stepsE E p) : stepsE E p.reverse := fun i hi => by
 rw [List.length_reverse] at hi
 have := h (p.length - 1 - (i + 1)) (by omega)
 rw [getD_rev (by omega), getD_rev hi]
 rw [show p.length - 1 - (i + 1) + 1 = p.length - 1 - i by omega] at this
 exact adj_sym this
theorem last_rev {p : List Int} (h : 0 < p.length) : p.reverse.getLastD 0 = p.headD 0 := by
 rw [lastD_at, List.length_reverse, getD_rev (by omega), headD_at h]
 congr 1
 omega
section
variable {n : Int} {E : List Ed} {k : Int} {T : List Int} {L : List (List Int)}
theorem adj_paths (hR : RightP n E) (hE : ∀ x ∈ E, x ∈ segs L) {v w : Int} (ha : adjE E v w) : ∃ (i : Nat) (p : List Int) (s : Nat), L[i]? = some p /\ s + 1 < p.length /\ ((p.getD s 0 = v /\ p.getD (s + 1) 0 = w) \/ (p.getD s 0 = w /\ p.getD (s + 1) 0 = v)) := by
 obtain ⟨p, hp, hx⟩ := List.mem_flatMap.1 (hE _ (adj_edN hR ha))
 obtain ⟨s, hs, he⟩ := mem_segsR.1 hx
 obtain ⟨i, hi, rfl⟩ := List.mem_iff_getElem.1 hp
 refine ⟨i, _, s, List.getElem?_eq_getElem hi, hs, ?_⟩
 rcases edN_eq he with ⟨h1, h2⟩ | ⟨h1, h2⟩
 ·exact .inl ⟨h1.symm, h2.symm⟩
 ·exact .inr ⟨h2.symm, h1.symm⟩
theorem fit_two (h : SubP n E k T L) {i : Nat} {p : List Int} (hp : L[i]? = some p) : 2 <= p.length := by
 have := (h.2.1 i p hp).2.2.2
 rcases h.1 with h | h <;> omega
theorem inner_idx {p : List Int} {s : Nat} (hs : s + 2 < p.length) : p.getD (s + 1) 0 ∈ innerL p := mem_inner.2 ⟨s, hs, getD_at (by omega)⟩
theorem inner_near (hR : RightP n E) (h : SubP n E k T L) (hE : ∀ x ∈ E, x ∈ segs L) {i s : Nat} {p : List Int} (hp : L[i]? = some p) (hs : s + 2 < p.length) : ∀ w, w ∈ nearL E (p.getD (s + 1) 0) ↔ w ∈ [p.getD s 0, p.getD (s + 2) 0] := by
 intro w
 obtain ⟨hP, _⟩ := h.2.1 i p hp
 rw [mem_nearL]
 simp only [List.mem_cons, List.not_mem_nil, or_false]
 constructor
 ·intro ha
  obtain ⟨j, q, t, hq, ht, hc⟩ := adj_paths hR hE ha
  have hin := inner_idx hs
  have hc1 := h.2.2 p (List.mem_of_getElem? hp) _ hin
  have hvp : p.getD (s + 1) 0 ∈ p := getD_mem (by omega)
  have hvq : p.getD (s + 1) 0 ∈ q := by
   rcases hc with ⟨e, _⟩ | ⟨_, e⟩ <;> rw [<- e] <;> exact getD_mem (by omega)
  have hij : i = j := Decidable.byContradiction fun hij => by
   have := cnt_at hp hq hij hvp hvq
   omega
  subst hij
  rw [hp] at hq
  injection hq with hq
  subst hq
  rcases hc with ⟨e1, e2⟩ | ⟨e1, e2⟩
  ·have := getD_inj hP.2.2.2.1 (by omega) (by omega) e1
   subst this
   exact .inr e2.symm
  ·have := getD_inj hP.2.2.2.1 (by omega) (by omega) e2
   have : t = s := by omega
   subst this
   exact .inl e1.symm
 ·rintro (rfl | rfl)
  ·exact adj_sym (hP.2.2.2.2 s (by omega))
  ·exact hP.2.2.2.2 (s + 1) (by omega)
theorem inner_deg (hR : RightP n E) (h : SubP n E k T L) (hE : ∀ x ∈ E, x ∈ segs L) {i s : Nat} {p : List Int} (hp : L[i]? = some p) (hs : s + 2 < p.length) : (nearL E (p.getD (s + 1) 0)).length = 2 := by
 have := len_of_mem (near_nodup hR _) (m := [p.getD s 0, p.getD (s + 2) 0]) (by
  simp only [List.nodup_cons, List.mem_singleton, List.not_mem_nil, not_false_eq_true, List.nodup_nil, and_true]
  intro e
  have := getD_inj (h.2.1 i p hp).1.2.2.2.1 (by omega) (by omega) e
  omega) (inner_near hR h hE hp hs)
 exact this
def othT (p : List Int) (t : Int) : Int := if p.headD 0 = t then p.getD 1 0 else p.getD (p.length - 2) 0
def tipT (t : Int) (p : List Int) : Bool := p.headD 0 == t || p.getLastD 0 == t
theorem tipT_iff {t : Int} {p : List Int} : tipT t p = true ↔ p.headD 0 = t \/ p.getLastD 0 = t := by simp [tipT]
theorem head_last (h : SubP n E k T L) {i : Nat} {p : List Int} (hp : L[i]? = some p) : p.getD 0 0 ≠ p.getD (p.length - 1) 0 := fun e => by
 have h2 := fit_two h hp
 have := getD_inj (h.2.1 i p hp).1.2.2.2.1 (by omega) (by omega) e
 omega
theorem tops_ends (h : SubP n E k T L) : (∀ t ∈ T, (L.filter (tipT t)).length = 3) /\ (∀ p ∈ L, p.headD 0 ∈ T /\ p.getLastD 0 ∈ T) /\ (T.Pairwise (· < ·) -> ∀ p ∈ L, p.headD 0 < p.getLastD 0) := by
 have hT := sub_tops h
 obtain ⟨hs, hf, _⟩ := h
 rcases hs with ⟨rfl, hT4, hL6⟩ | ⟨rfl, hT2, hL3⟩
 ·match T, hT4, L, hL6 with
  | [a, b, c, d], _, [p0, p1, p2, p3, p4, p5], _ =>
   have f0 : PathP n E p0 /\ p0.headD 0 = a /\ p0.getLastD 0 = b /\ (1 : Int) + 1 <= p0.length := hf 0 p0 rfl
   have f1 : PathP n E p1 /\ p1.headD 0 = a /\ p1.getLastD 0 = c /\ (1 : Int) + 1 <= p1.length := hf 1 p1 rfl
   have f2 : PathP n E p2 /\ p2.headD 0 = a /\ p2.getLastD 0 = d /\ (1 : Int) + 1 <= p2.length := hf 2 p2 rfl
   have f3 : PathP n E p3 /\ p3.headD 0 = b /\ p3.getLastD 0 = c /\ (1 : Int) + 1 <= p3.length := hf 3 p3 rfl
   have f4 : PathP n E p4 /\ p4.headD 0 = b /\ p4.getLastD 0 = d /\ (1 : Int) + 1 <= p4.length := hf 4 p4 rfl
   have f5 : PathP n E p5 /\ p5.headD 0 = c /\ p5.getLastD 0 = d /\ (1 : Int) + 1 <= p5.length := hf 5 p5 rfl
   simp only [List.nodup_cons, List.mem_cons, List.not_mem_nil, or_false, not_or, List.nodup_nil, not_false_eq_true, and_true] at hT
   obtain ⟨⟨n1, n2, n3⟩, ⟨n4, n5⟩, n6⟩ := hT
   refine ⟨fun t ht => ?_, fun p hp => ?_, fun hS p hp => ?_⟩
   ·simp only [List.mem_cons, List.not_mem_nil, or_false] at ht
    have q : ∀ {x y : Int}, x ≠ y -> (x == y) = false /\ (y == x) = false := fun h => ⟨by simpa using h, by simpa using h.symm⟩
    obtain ⟨r1, r1'⟩ := q n1
    obtain ⟨r2, r2'⟩ := q n2
    obtain ⟨r3, r3'⟩ := q n3
    obtain ⟨r4, r4'⟩ := q n4
    obtain ⟨r5, r5'⟩ := q n5
    obtain ⟨r6, r6'⟩ := q n6
    rcases ht with rfl | rfl | rfl | rfl <;> simp only [List.filter_cons, List.filter_nil, tipT, f0.2.1, f0.2.2.1, f1.2.1, f1.2.2.1, f2.2.1, f2.2.2.1, f3.2.1, f3.2.2.1, f4.2.1, f4.2.2.1, f5.2.1, f5.2.2.1, r1, r1', r2, r2', r3, r3', r4, r4', r5, r5', r6, r6', beq_self_eq_true, Bool.or_false, Bool.false_or, Bool.or_true, Bool.true_or, if_true, if_false, Bool.false_eq_true, List.length_cons, List.length_nil]
   ·simp only [List.mem_cons, List.not_mem_nil, or_false] at hp
    rcases hp with rfl | rfl | rfl | rfl | rfl | rfl <;> first | (rw [f0.2.1, f0.2.2.1]; simp; done) | (rw [f1.2.1, f1.2.2.1]; simp; done) | (rw [f2.2.1, f2.2.2.1]; simp; done) | (rw [f3.2.1, f3.2.2.1]; simp; done) | (rw [f4.2.1, f4.2.2.1]; simp; done) | (rw [f5.2.1, f5.2.2.1]; simp; done)
   ·simp only [List.pairwise_cons, List.mem_cons, List.not_mem_nil, or_false, forall_eq_or_imp, forall_eq] at hS
    simp only [List.mem_cons, List.not_mem_nil, or_false] at hp
    rcases hp with rfl | rfl | rfl | rfl | rfl | rfl <;> omega
 ·match T, hT2, L, hL3 with
  | [a, b], _, [p0, p1, p2], _ =>
   have f0 : PathP n E p0 /\ p0.headD 0 = a /\ p0.getLastD 0 = b /\ (2 : Int) + 1 <= p0.length := hf 0 p0 rfl
   have f1 : PathP n E p1 /\ p1.headD 0 = a /\ p1.getLastD 0 = b /\ (2 : Int) + 1 <= p1.length := hf 1 p1 rfl
   have f2 : PathP n E p2 /\ p2.headD 0 = a /\ p2.getLastD 0 = b /\ (2 : Int) + 1 <= p2.length := hf 2 p2 rfl
   simp only [List.nodup_cons, List.mem_cons, List.not_mem_nil, or_false, not_or, List.nodup_nil, not_false_eq_true, and_true] at hT
   refine ⟨fun t ht => ?_, fun p hp => ?_, fun hS p hp => ?_⟩
   ·simp only [List.mem_cons, List.not_mem_nil, or_false] at ht
    rcases ht with rfl | rfl <;> simp only [List.filter_cons, List.filter_nil, tipT, f0.2.1, f0.2.2.1, f1.2.1, f1.2.2.1, f2.2.1, f2.2.2.1, beq_self_eq_true, Bool.or_true, Bool.true_or, if_true, List.length_cons, List.length_nil]
   ·simp only [List.mem_cons, List.not_mem_nil, or_false] at hp
    rcases hp with rfl | rfl | rfl <;> first | (rw [f0.2.1, f0.2.2.1]; simp; done) | (rw [f1.2.1, f1.2.2.1]; simp; done) | (rw [f2.2.1, f2.2.2.1]; simp; done)
   ·simp only [List.pairwise_cons, List.mem_cons, List.not_mem_nil, or_false, forall_eq] at hS
    simp only [List.mem_cons, List.not_mem_nil, or_false] at hp
    rcases hp with rfl | rfl | rfl <;> omega
theorem top_end (h : SubP n E k T L) {t : Int} (ht : t ∈ T) : ∃ p ∈ L, p.headD 0 = t \/ p.getLastD 0 = t := by
 have := (tops_ends h).1 t ht
 obtain ⟨p, hp⟩ := List.exists_mem_of_length_pos (show 0 < (L.filter (tipT t)).length by omega)
 rw [List.mem_filter] at hp
 exact ⟨p, hp.1, tipT_iff.1 hp.2⟩
theorem top_inner (h : SubP n E k T L) {t : Int} (ht : t ∈ T) {i : Nat} {p : List Int} (hp : L[i]? = some p) : t ∉ innerL p := fun hv => by
 obtain ⟨q, hq, he⟩ := top_end h ht
 obtain ⟨j, hj, rfl⟩ := List.mem_iff_getElem.1 hq
 have := inner_end h hp (List.getElem?_eq_getElem hj) hv
 rcases he with e | e
 ·exact this.1 e.symm
 ·exact this.2 e.symm
theorem oth_seg (h : SubP n E k T L) {t : Int} {i : Nat} {p : List Int} (hp : L[i]? = some p) (he : tipT t p = true) : ∃ s, s + 1 < p.length /\ sameP (p.getD s 0) (p.getD (s + 1) 0) t (othT p t) := by
 have h2 := fit_two h hp
 unfold othT
 by_cases e : p.headD 0 = t
 ·rw [if_pos e]
  exact ⟨0, by omega, .inl ⟨by rw [<- e, headD_at (by omega)], rfl⟩⟩
 ·rw [if_neg e]
  have e := (tipT_iff.1 he).resolve_left e
  refine ⟨p.length - 2, by omega, .inr ⟨rfl, ?_⟩⟩
  rw [<- e, lastD_at]
  congr 1; omega
theorem top_near (hR : RightP n E) (h : SubP n E k T L) (hE : ∀ x ∈ E, x ∈ segs L) {t : Int} (ht : t ∈ T) : ∀ w, w ∈ nearL E t ↔ w ∈ (L.filter (tipT t)).map fun p => othT p t := by
 intro w
 rw [mem_nearL, List.mem_map]
 constructor
 ·intro ha
  obtain ⟨i, p, s, hp, hs, hc⟩ := adj_paths hR hE ha
  have hno := top_inner h ht hp
  rcases hc with ⟨e1, e2⟩ | ⟨e1, e2⟩
  ·have := inner_not (p := p) (i := s) (by omega) (by rw [e1]; exact hno)
   have hs0 : s = 0 := by omega
   subst hs0
   have e0 : p.headD 0 = t := by rw [headD_at (by omega)]; exact e1
   exact ⟨p, List.mem_filter.2 ⟨List.mem_of_getElem? hp, tipT_iff.2 (.inl e0)⟩, by unfold othT; rw [if_pos e0]; exact e2⟩
  ·have := inner_not (p := p) (i := s + 1) hs (by rw [e2]; exact hno)
   have hs0 : s + 2 = p.length := by omega
   have e0 : p.getLastD 0 = t := by rw [lastD_at, show p.length - 1 = s + 1 by omega]; exact e2
   have e3 : p.headD 0 ≠ t := fun e3 => head_last h hp (by rw [<- headD_at (p := p) (by omega), <- lastD_at, e3, e0])
   exact ⟨p, List.mem_filter.2 ⟨List.mem_of_getElem? hp, tipT_iff.2 (.inr e0)⟩, by unfold othT; rw [if_neg e3, show p.length - 2 = s by omega]; exact e1⟩
 ·rintro ⟨p, hp, rfl⟩
  obtain ⟨hp, he⟩ := List.mem_filter.1 hp
  obtain ⟨i, hi, rfl⟩ := List.mem_iff_getElem.1 hp
  have hpi := List.getElem?_eq_getElem hi
  obtain ⟨s, hs, hc⟩ := oth_seg h hpi he
  have := (h.2.1 i _ hpi).1.2.2.2.2 s hs
  rcases hc with ⟨e1, e2⟩ | ⟨e1, e2⟩
  ·rw [e1, e2] at this; exact this
  ·rw [e1, e2] at this; exact adj_sym this
theorem top_deg (hR : RightP n E) (h : SubP n E k T L) (hE : ∀ x ∈ E, x ∈ segs L) {t : Int} (ht : t ∈ T) : (nearL E t).length = 3 := by
 have := len_of_mem (near_nodup hR t) (m := (L.filter (tipT t)).map fun p => othT p t) ?_ (top_near hR h hE ht)
 ·rw [this, List.length_map, (tops_ends h).1 t ht]
 ·rw [List.nodup_iff_pairwise_ne, List.pairwise_map, List.pairwise_filter, List.pairwise_iff_getElem]
  intro i j hi hj hij h1 h2 e
  have p1 := List.getElem?_eq_getElem hi
  have p2 := List.getElem?_eq_getElem hj
  obtain ⟨s1, a1, b1⟩ := oth_seg h p1 h1
  obtain ⟨s2, a2, b2⟩ := oth_seg h p2 h2
  refine pairs_apart h p1 p2 (by omega) a1 a2 ?_
  rw [e] at b1
  unfold sameP at b1 b2 ⊢
  omega
theorem deg_kinds (hR : RightP n E) (h : SubP n E k T L) (hE : ∀ x ∈ E, x ∈ segs L) (v : Int) : (v ∈ T /\ (nearL E v).length = 3) \/ (v ∉ T /\ ((nearL E v).length = 2 \/ (nearL E v).length = 0)) := by
 by_cases hv : v ∈ T
 ·exact .inl ⟨hv, top_deg hR h hE hv⟩
 refine .inr ⟨hv, ?_⟩
 by_cases h0 : nearL E v = []
 ·right; rw [h0]; rfl
 left
 obtain ⟨w, hw⟩ := List.exists_mem_of_ne_nil _ h0
 obtain ⟨i, p, s, hp, hs, hc⟩ := adj_paths hR hE (mem_nearL.1 hw)
 obtain ⟨s', hs', e⟩ : ∃ s', s' < p.length /\ p.getD s' 0 = v := by
  rcases hc with ⟨e, _⟩ | ⟨_, e⟩
  ·exact ⟨s, by omega, e⟩
  ·exact ⟨s + 1, hs, e⟩
 have hends := (tops_ends h).2.1 p (List.mem_of_getElem? hp)
 have n0 : s' ≠ 0 := fun e0 => hv (by rw [<- e, e0, <- headD_at (by omega)]; exact hends.1)
 have n1 : s' + 1 ≠ p.length := fun e0 => hv (by rw [<- e, show s' = p.length - 1 by omega, <- lastD_at]; exact hends.2)
 have := inner_deg hR h hE hp (s := s' - 1) (by omega)
 rw [show s' - 1 + 1 = s' by omega, e] at this
 exact this
theorem trl_of (hR : RightP n E) (h : SubP n E k T L) (hE : ∀ x ∈ E, x ∈ segs L) {p : List Int} (hp : p ∈ L) : Trl E p /\ Trl E p.reverse /\ p.length <= n.toNat := by
 obtain ⟨i, hi, rfl⟩ := List.mem_iff_getElem.1 hp
 have hpi := List.getElem?_eq_getElem hi
 obtain ⟨p, hpe⟩ : ∃ p, L[i] = p := ⟨_, rfl⟩
 rw [hpe] at hpi hp ⊢
 obtain ⟨hP, _⟩ := h.2.1 i p hpi
 have h2 := fit_two h hpi
 have hends := (tops_ends h).2.1 p hp
 have hd : ∀ i, 1 <= i -> i + 1 < p.length -> (nearL E (p.getD i 0)).length = 2 := fun i h1 h2 => by
  have := inner_deg hR h hE hpi (s := i - 1) (by omega)
  rwa [show i - 1 + 1 = i by omega] at this
 refine ⟨⟨h2, hP.2.2.2.1, hP.2.2.2.2, hd, by rw [top_deg hR h hE hends.2]; omega⟩, ⟨by simpa using h2, (List.reverse_perm p).nodup_iff.2 hP.2.2.2.1, steps_rev hP.2.2.2.2, fun i h1 h2 => ?_, by rw [last_rev (by omega), top_deg hR h hE hends.1]; omega⟩, range_len hP.2.2.2.1 (path_in hP)⟩
 rw [List.length_reverse] at h2
 rw [getD_rev (by omega)]
 exact hd _ (by omega) (by omega)
theorem read_of (hR : RightP n E) (h : SubP n E k T L) (hE : ∀ x ∈ E, x ∈ segs L) (hT : T.Pairwise (· < ·)) (hL : L.Pairwise ltT) : ReadP n E /\ readF n E = ((k, T, L), true) := by
 have hdk := deg_kinds hR h hE
 have hends := tops_ends h
 have htr : ∀ t ∈ T, 0 <= t /\ t < n := fun t ht => by
  obtain ⟨p, hp, he⟩ := top_end h ht
  obtain ⟨i, hi, rfl⟩ := List.mem_iff_getElem.1 hp
  have := path_ends (h.2.1 i _ (List.getElem?_eq_getElem hi)).1
  rcases he with e | e <;> rw [<- e]
  ·exact this.1
  ·exact this.2
 have htop : topsK E n.toNat = T := by
  refine sorted_eq (topsK_sorted _ _) hT fun x => ?_
  rw [mem_topsK]
  constructor
  ·rintro ⟨_, _, h3⟩
   rcases hdk x with ⟨hx, _⟩ | ⟨_, hx⟩
   ·exact hx
   ·omega
  ·intro hx
   have := htr x hx
   exact ⟨this.1, by omega, top_deg hR h hE hx⟩
 have hkind : kindT T = k := by
  unfold kindT
  rcases h.1 with ⟨rfl, h4, _⟩ | ⟨rfl, h4, _⟩ <;> rw [h4] <;> rfl
 have hmem : ∀ q, q ∈ pathsT n E T ↔ q ∈ L := fun q => by
  unfold pathsT
  rw [List.mem_flatMap]
  constructor
  ·rintro ⟨t, ht, hq⟩
   obtain ⟨⟨x, hx, rfl⟩, hlt⟩ := mem_keepT.1 hq
   obtain ⟨p, hp, rfl⟩ := List.mem_map.1 ((top_near hR h hE ht x).1 hx)
   obtain ⟨hp, he⟩ := List.mem_filter.1 hp
   obtain ⟨t1, t2, hl⟩ := trl_of hR h hE hp
   have hp2 := t1.two
   by_cases e : p.headD 0 = t
   ·have e1 : othT p t = p.getD 1 0 := by unfold othT; rw [if_pos e]
    have e2 : t = p.getD 0 0 := by rw [<- e, headD_at (by omega)]
    rw [e1, e2, trl_path hR t1 (by omega)]
    exact hp
   ·have e3 := (tipT_iff.1 he).resolve_left e
    have e1 : othT p t = p.reverse.getD 1 0 := by
     unfold othT
     rw [if_neg e, getD_rev (by omega)]
     congr 1
    have e2 : t = p.reverse.getD 0 0 := by
     rw [getD_rev (by omega), <- e3, lastD_at]
     rfl
    rw [e1, e2, trl_path hR t2 (by simp; omega), last_rev (by omega), <- e2, <- e3] at hlt
    have := hends.2.2 hT p hp
    omega
  ·intro hq
   obtain ⟨t1, _, hl⟩ := trl_of hR h hE hq
   have h2 := t1.two
   have hh := hends.2.1 q hq
   have hlt := hends.2.2 hT q hq
   refine ⟨q.headD 0, hh.1, mem_keepT.2 ⟨⟨q.getD 1 0, ?_, ?_⟩, hlt⟩⟩
   ·rw [mem_nearL, headD_at (by omega)]
    exact t1.st 0 (by omega)
   ·rw [headD_at (by omega)]
    exact (trl_path hR t1 (by omega)).symm
 have hLn : L.Nodup := List.nodup_iff_pairwise_ne.2 (hL.imp fun {a b} hab e => by subst e; unfold ltT at hab; omega)
 have hPn : (pathsT n E T).Nodup := List.nodup_iff_pairwise_ne.2 ((paths_keys hR (fun t ht => top_deg hR h hE ht) (hT.imp fun hab => by omega)).imp fun {a b} hab e => by
  subst e
  rcases hab with k | k <;> (rw [ltT_t] at k; unfold ltT at k; omega))
 have hperm : (pathsT n E T).Perm L := (List.perm_ext_iff_of_nodup hPn hLn).2 hmem
 have hsort : sortL cmpT (pathsT n E T) = L := by
  refine (List.Perm.eq_of_pairwise (le := fun x y => ltOf cmpT y x = false) (fun a b ha hb h1 h2 => ?_) ?_ ?_ (hperm.symm.trans (sortL_perm cmpT _).symm)).symm
  ·refine Decidable.byContradiction fun hne => ?_
   have hb : b ∈ L := hperm.mem_iff.1 ((sortL_perm cmpT _).mem_iff.1 hb)
   obtain ⟨i, hi, rfl⟩ := List.mem_iff_getElem.1 ha
   obtain ⟨j, hj, rfl⟩ := List.mem_iff_getElem.1 hb
   rw [ltT_f] at h1 h2
   have hpw := List.pairwise_iff_getElem.1 hL
   rcases Nat.lt_trichotomy i j with k | k | k
   ·exact h2 (hpw i j hi hj k)
   ·subst k; exact hne rfl
   ·exact h1 (hpw j i hj hi k)
  ·refine hL.imp fun {a b} hab => ?_
   rw [ltT_f]
   unfold ltT at hab ⊢
   omega
  ·have := List.pairwise_mergeSort (le := fun x y => !(ltOf cmpT) y x) (fun a b c h1 h2 => by
    simp only [Bool.not_eq_true'] at h1 h2 ⊢
    exact swoT.ntrans _ _ _ h2 h1) (fun a b => by
    cases h1 : ltOf cmpT b a with
    | false => simp
    | true =>
     have : ltOf cmpT a b = false := by
      rw [ltT_t] at h1
      rw [ltT_f]
      unfold ltT at h1 ⊢
      omega
     simp [this]) (pathsT n E T)
   exact this.imp fun h => by simpa using h
 have hused : usedT (pathsT n E T) = E.length := by
  rw [used_perm hperm, <- segs_len]
  exact Nat.le_antisymm (nodup_lenG (segs_nodup h) (segs_sub h)) (nodup_lenG (ltE_nodup hR.2.2.2.2) hE)
 have hRP : ReadP n E := by
  refine ⟨hR, fun v hv => ?_, ?_, ?_, ?_⟩
  ·unfold degOk
   rcases hdk (v : Nat) with ⟨_, k⟩ | ⟨_, k | k⟩
   ·exact .inr (.inr k)
   ·exact .inr (.inl k)
   ·exact .inl k
  ·rw [htop, hkind]
   rcases h.1 with ⟨rfl, _⟩ | ⟨rfl, _⟩ <;> omega
  ·rw [htop]; exact hused
  ·rw [htop, hkind, hsort]; exact h
 refine ⟨hRP, ?_⟩
 rw [readF_yes hRP, htop, hkind, hsort]
end
end Go.Sh
namespace Go.Sh
open Go.Proofs
theorem sub_few {n : Int} {E : List Ed} {k : Int} {T : List Int} {L : List (List Int)} (hn : n <= 64) (h : SubP n E k T L) : fewL L /\ smallNums L /\ T.length <= 4 := by
 have hl : L.length <= 6 /\ T.length <= 4 := by rcases h.1 with ⟨_, h1, h2⟩ | ⟨_, h1, h2⟩ <;> omega
 refine ⟨⟨by omega, fun p hp => ?_⟩, fun p hp x hx => ?_, hl.2⟩
 ·obtain ⟨i, hi, rfl⟩ := List.mem_iff_getElem.1 hp
  have hP := (h.2.1 i _ (List.getElem?_eq_getElem hi)).1
  have := range_len hP.2.2.2.1 (path_in hP)
  omega
 ·obtain ⟨i, hi, rfl⟩ := List.mem_iff_getElem.1 hp
  have hP := (h.2.1 i _ (List.getElem?_eq_getElem hi)).1
  have := path_in hP x hx
  unfold i64
  omega
end Go.Sh
