/- What the functions answer that the statement reaches. No condition. -/
import Derived.Test.YtddlfeclbffloaaFn2
import Derived.Test.YtddlfeclbffloaaRows
set_option linter.unusedVariables false
set_option linter.unusedSimpArgs false
namespace Go.Sh
open Go.Proofs
/-! ### bits, as numbers -/
def borI (a b : Int) : Int := IntKind.wrap .i64 ((BitVec.ofInt (IntKind.bits .i64) a ||| BitVec.ofInt (IntKind.bits .i64) b).toNat : Int)
def boffI (a b : Int) : Int := IntKind.wrap .i64 ((BitVec.ofInt (IntKind.bits .i64) a &&& ~~~ BitVec.ofInt (IntKind.bits .i64) b).toNat : Int)
theorem wrap_nat {m : Nat} (h : m < 2 ^ 63) : IntKind.wrap .i64 (m : Int) = m := by
  have e : (m : Int) % 2 ^ 64 = m := by omega
  simp only [IntKind.wrap, IntKind.bits, IntKind.signed]
  refine (if_neg fun h => ?_).trans e
  simp at h
  omega
theorem ofInt_nat {m : Nat} (h : m < 2 ^ 63) : (BitVec.ofInt (IntKind.bits .i64) (m : Int)).toNat = m := by
  show (BitVec.ofInt 64 (m : Int)).toNat = m
  rw [BitVec.ofInt_natCast, BitVec.toNat_ofNat, Nat.mod_eq_of_lt (by omega)]
theorem and_nat {x y : Nat} (hx : x < 2 ^ 63) (hy : y < 2 ^ 63) : andI (x : Int) (y : Int) = ((x &&& y : Nat) : Int) := by
  unfold andI
  rw [BitVec.toNat_and, ofInt_nat hx, ofInt_nat hy, wrap_nat (Nat.lt_of_le_of_lt Nat.and_le_left hx)]
theorem or_nat {x y : Nat} (hx : x < 2 ^ 63) (hy : y < 2 ^ 63) : borI (x : Int) (y : Int) = ((x ||| y : Nat) : Int) := by
  unfold borI
  rw [BitVec.toNat_or, ofInt_nat hx, ofInt_nat hy, wrap_nat (Nat.or_lt_two_pow hx hy)]
theorem off_nat {x y : Nat} (hx : x < 2 ^ 63) (hy : y < 2 ^ 63) : boffI (x : Int) (y : Int) = ((offX x y : Nat) : Int) := by
  unfold boffI
  have e : (BitVec.ofInt (IntKind.bits .i64) (x : Int) &&& ~~~ BitVec.ofInt (IntKind.bits .i64) (y : Int)).toNat = offX x y := by
    apply Nat.eq_of_testBit_eq
    intro j
    rw [off_bit, BitVec.testBit_toNat, BitVec.getLsbD_and, BitVec.getLsbD_not, ← BitVec.testBit_toNat, ← BitVec.testBit_toNat, ofInt_nat hx, ofInt_nat hy]
    by_cases hj : j < 64
    · have : j < IntKind.bits .i64 := hj
      simp [this]
    · have : x.testBit j = false := Nat.testBit_lt_two_pow (Nat.lt_of_lt_of_le hx (Nat.pow_le_pow_right (by omega) (by omega)))
      rw [this]; simp
  rw [e, wrap_nat (Nat.lt_of_le_of_lt ?_ hx)]
  unfold offX
  apply Nat.le_of_testBit
  intro j hj
  rw [Nat.testBit_xor, Nat.testBit_and] at hj
  cases hc : x.testBit j with
  | true => rfl
  | false => rw [hc] at hj; simp at hj
theorem pow7 {v : Nat} (h : v ≤ 7) : 2 ^ v ≤ 128 := Nat.pow_le_pow_right (n := 2) (by omega) h
theorem powI (v : Nat) : (1 : Int) * 2 ^ ((v : Int)).toNat = ((2 ^ v : Nat) : Int) := by simp
theorem shrI (x v : Nat) : (x : Int).fdiv (2 ^ ((v : Int)).toNat) = ((x >>> v : Nat) : Int) := by
  rw [Int.toNat_natCast, Nat.shiftRight_eq_div_pow, Int.fdiv_eq_ediv_of_nonneg _ (by exact Int.le_of_lt (Int.pow_pos (by omega)))]
  simp
theorem shr_lt {x v : Nat} (h : x < 256) : x >>> v < 256 := by
  rw [Nat.shiftRight_eq_div_pow]
  exact Nat.lt_of_le_of_lt (Nat.div_le_self _ _) h
theorem inK_u64 {a : Int} (h0 : 0 ≤ a) (h : a < 9223372036854775808) : inK .u64 a = true := by
  rw [inK_iff]
  simp only [IntKind.wrap, IntKind.bits, IntKind.signed]
  simp
  omega
theorem bitI (x v : Nat) (h : x < 256) : (andI ((x : Int).fdiv (2 ^ ((v : Int)).toNat)) 1 == 1) = x.testBit v := by
  have := shr_lt (v := v) h
  rw [shrI, show (1 : Int) = ((1 : Nat) : Int) from rfl, and_nat (by omega) (by omega), Nat.testBit, Nat.and_comm]
  rcases Nat.mod_two_eq_zero_or_one (x >>> v) with e | e
  · rw [Nat.one_and_eq_mod_two, e]; rfl
  · rw [Nat.one_and_eq_mod_two, e]; rfl
def natL (r : List Nat) : List Int := List.map (fun n : Nat => (n : Int)) r
abbrev nats (r : List Nat) : Flat := ints (natL r)
theorem natL_inj {r s : List Nat} (h : natL r = natL s) : r = s := (List.map_inj_right fun a b e => by omega).1 h
theorem natL_length (r : List Nat) : (natL r).length = r.length := by simp [natL]
theorem nats_length (r : List Nat) : (nats r).length = r.length := by rw [ints_length, natL_length]
theorem nats_get {r : List Nat} {i : Nat} (h : i < r.length) : (nats r)[i]? = some [.i .i64 ((r.getD i 0 : Nat) : Int)] := by
  refine ints_get ?_
  simp [natL, List.getElem?_eq_getElem h]
theorem nats_snoc (r : List Nat) (x : Nat) : nats (r ++ [x]) = nats r ++ [[.i .i64 (x : Int)]] := by simp [nats, natL, ints]
theorem nats_set (r : List Nat) (i x : Nat) : nats (r.set i x) = (nats r).set i [.i .i64 (x : Int)] := by simp [nats, natL, ints, List.map_set]
theorem getD_lt {r : List Nat} {m : Nat} (h : ∀ x ∈ r, x < m) (hm : 0 < m) (i : Nat) : r.getD i 0 < m := by
  by_cases hi : i < r.length
  · rw [List.getD_eq_getElem?_getD, List.getElem?_eq_getElem hi]; exact h _ (List.getElem_mem hi)
  · rw [getD_out hi]; exact hm
/-- small rows of bits -/
def Byt (r : List Nat) : Prop := r.length ≤ 8 ∧ ∀ x ∈ r, x < 256
theorem lessX_lt {x v : Nat} (h : x < 256) : lessX x v < 256 := by
  apply Nat.lt_pow_two_of_testBit (n := 8)
  intro i hi
  rw [lessX_bit]
  exact Nat.testBit_lt_two_pow (Nat.lt_of_lt_of_le (show x < 2 ^ 8 by omega) (Nat.pow_le_pow_right (by omega) (by unfold up1; split <;> omega)))
theorem mergeX_lt {r : List Nat} (h : Byt r) {a b i x : Nat} (ha : a < 8) (hx : x < 256) : mergeX r a b i x < 256 := by
  have h1 := getD_lt h.2 (by omega) a
  have h2 := getD_lt h.2 (by omega) b
  unfold mergeX
  split
  · apply Nat.lt_pow_two_of_testBit (n := 8)
    intro i hi
    rw [off_bit, Nat.testBit_lt_two_pow (Nat.lt_of_lt_of_le (Nat.or_lt_two_pow (n := 8) h1 h2) (Nat.pow_le_pow_right (by omega) hi))]
    rfl
  · split
    · exact Nat.or_lt_two_pow (n := 8) hx (Nat.pow_lt_pow_right (by omega) ha)
    · exact hx
theorem Byt.less {r : List Nat} (h : Byt r) {v : Nat} (hv : v < r.length) : Byt (lessL r v) := by
  refine ⟨by have := lessL_length hv; have := h.1; omega, fun x hx => ?_⟩
  obtain ⟨y, hy, rfl⟩ := List.mem_map.1 hx
  exact lessX_lt (h.2 y (List.mem_of_mem_eraseIdx hy))
theorem Byt.merge {r : List Nat} (h : Byt r) {a b : Nat} (ha : a < r.length) : Byt (mergeL r a b) := by
  refine ⟨by rw [mergeL_length]; exact h.1, fun x hx => ?_⟩
  obtain ⟨i, hi, rfl⟩ := List.mem_map.1 hx
  exact mergeX_lt h (by have := h.1; omega) (getD_lt h.2 (by omega) i)
theorem Byt.merged {r : List Nat} (h : Byt r) {a b : Nat} (ha : a < r.length) (hb : b < r.length) : Byt (mergedL r a b) := (h.merge ha).less (by rw [mergeL_length]; exact hb)
/-! ### carcanetref08.less -/
noncomputable def Less8C : Con := conP 2 (fun a : List Nat × Nat => Byt a.1 ∧ a.2 < a.1.length) (fun a => [.one (.flat false 1 (nats a.1)), .one (.s (.i .i64 (a.2 : Nat)))]) (fun a => .one (.flat true 1 (nats (lessL a.1 a.2))))
theorem Less8C_at {r : List Nat} {v : Nat} (h : Byt r ∧ v < r.length) : Less8C.F [.one (.flat false 1 (nats r)), .one (.s (.i .i64 (v : Nat)))] = some (.one (.flat true 1 (nats (lessL r v))), []) :=
  conP_at (a := (r, v)) (fun a b _ _ h => by
    obtain ⟨r, v⟩ := a
    obtain ⟨r', v'⟩ := b
    simp at h
    obtain ⟨h1, h2⟩ := h
    rw [natL_inj (ints_inj h1), show v = v' by omega]) h
theorem lessI {x v : Nat} (hx : x < 256) (hv : v < 8) : borI (andI (x : Int) (1 * 2 ^ ((v : Int)).toNat - 1)) ((x : Int).fdiv (2 ^ ((v : Int) + 1).toNat) * 2 ^ ((v : Int)).toNat) = ((lessX x v : Nat) : Int) := by
  have h1 := pow7 (show v ≤ 7 by omega)
  have h2 := Nat.pow_pos (n := v) (show 0 < 2 by omega)
  have h3 := shr_lt (v := v + 1) hx
  have e1 : (1 * 2 ^ ((v : Int)).toNat - 1 : Int) = ((2 ^ v - 1 : Nat) : Int) := by rw [powI]; omega
  have e2 : (x : Int).fdiv (2 ^ ((v : Int) + 1).toNat) = ((x >>> (v + 1) : Nat) : Int) := shrI x (v + 1)
  have e3 : ((x >>> (v + 1) : Nat) : Int) * 2 ^ ((v : Int)).toNat = (((x >>> (v + 1)) <<< v : Nat) : Int) := by rw [Nat.shiftLeft_eq]; simp
  have h4 : (x >>> (v + 1)) <<< v < 2 ^ 63 := by
    rw [Nat.shiftLeft_eq]
    exact Nat.lt_of_le_of_lt (Nat.mul_le_mul (Nat.le_of_lt h3) h1) (by decide)
  rw [e1, e2, e3, and_nat (by omega) (by omega), or_nat (Nat.lt_of_le_of_lt Nat.and_le_left (by omega)) h4]
  rfl
theorem less_take {r : List Nat} {v k : Nat} (hk : k < r.length) : ((r.take (k + 1)).eraseIdx v).map (lessX · v) = ((r.take k).eraseIdx v).map (lessX · v) ++ (if k = v then [] else [lessX (r.getD k 0) v]) := by
  rw [List.take_succ_eq_append_getElem hk]
  have hg : r.getD k 0 = r[k] := by rw [List.getD_eq_getElem?_getD, List.getElem?_eq_getElem hk]; rfl
  have hl : (r.take k).length = k := by rw [List.length_take]; omega
  by_cases h : v < k
  · rw [List.eraseIdx_append_of_lt_length (by omega), if_neg (by omega), hg]; simp
  · rw [List.eraseIdx_append_of_length_le (by omega), hl]
    have e : (r.take k).eraseIdx v = r.take k := List.eraseIdx_of_length_le (by omega)
    rw [e]
    by_cases h2 : k = v
    · subst h2; simp
    · rw [if_neg h2, hg]
      have : v - k = (v - k - 1) + 1 := by omega
      rw [this, List.eraseIdx_cons_succ, List.eraseIdx_nil, List.map_append]; rfl
set_option maxHeartbeats 1000000 in
theorem Less8_ok : SoundC Try.prog T 83 Less8C := by
  refine sound_con (X := { Γ := [], T := T, nt := 44 }) cr_none hmix hT sound_nil Try.func83 (by rfl) (by rfl) (by rfl) (by rfl) 2 ?_
  rintro ⟨r, v⟩ ⟨⟨hl, hb⟩, hv⟩
  dsimp only at hl hb hv ⊢
  refine ⟨⟨Nat.le_of_ble_eq_true rfl, Nat.le_of_ble_eq_true rfl⟩, ?_⟩
  have hP := pow7 (show v ≤ 7 by omega)
  have hP0 := Nat.pow_pos (n := v) (show 0 < 2 by omega)
  refine LoopP.intro (α := Nat) (fun k => k ≤ r.length) (fun k => r.length - k) (fun k => [(0, .sl 0 none none), (1, .s (.i .i64 (v : Nat))), (5, .sl 1 none none), (6, .s (.i .i64 k))])
    (fun k => [(0, some (.flat false 1 (nats r))), (1, some (.flat true 1 (nats (((r.take k).eraseIdx v).map (lessX · v)))))]) 2 0 (by omega) (by refine Weak.by [(0, some _), (1, some _)] (by ((repeat' first | exact rfl | exact trivial | refine And.intro ?_ ?_) <;> (repeat' first | exact rfl | exact trivial | refine And.intro ?_ ?_)); all_goals ((rw [show (r.take 0).eraseIdx v = [] by simp]; rfl))) (by ((repeat' first | exact rfl | exact trivial | refine And.intro ?_ ?_) <;> (repeat' first | exact rfl | exact trivial | refine And.intro ?_ ?_)); all_goals ((rw [show (r.take 0).eraseIdx v = [] by simp]; rfl))) (by rfl)) ?_
  rintro k hk
  refine Pick.by (fun hc => ?_) (fun hc => ?_)
  · have hlt : k < r.length := by rw [nats_length] at hc; simpa using hc
    have hx := getD_lt hb (by omega) k
    have hst := less_take (v := v) hlt
    refine Pick.by (fun h1 => ?_) (fun h1 => ?_)
    · have h1 : k ≠ v := by simp at h1; omega
      rw [if_neg h1] at hst
      refine Idx.by k rfl (by rw [nats_length]; exact hlt) ?_
      refine Look.by _ (nats_get hlt) ?_
      refine Pick.T (inK_u64 (by omega) (by omega)) ?_
      refine Pick.T (by simp; omega) ?_
      refine Pick.T (by rw [powI]; exact inI64_of (by omega) (by omega)) ?_
      refine Pick.T (by rw [powI]; exact inI64_of (by omega) (by omega)) ?_
      refine Idx.by k rfl (by rw [nats_length]; exact hlt) ?_
      refine Look.by _ (nats_get hlt) ?_
      refine Pick.T (inI64_of (by omega) (by omega)) ?_
      refine Pick.T (inK_u64 (by omega) (by omega)) ?_
      refine Pick.T (by simp; omega) ?_
      refine Pick.T (inK_u64 (by omega) (by omega)) ?_
      refine Pick.T (by simp; omega) ?_
      refine Pick.T (by
        rw [show ((r.getD k 0 : Nat) : Int).fdiv (2 ^ ((v : Int) + 1).toNat) = ((r.getD k 0 >>> (v + 1) : Nat) : Int) from shrI _ (v + 1)]
        have h3 := shr_lt (v := v + 1) hx
        have : (((r.getD k 0 >>> (v + 1) : Nat) : Int)) * 2 ^ ((v : Int)).toNat = (((r.getD k 0 >>> (v + 1)) * 2 ^ v : Nat) : Int) := by simp
        rw [this]
        have := Nat.mul_le_mul (Nat.le_of_lt h3) hP
        exact inI64_of (by omega) (by omega)) ?_
      refine Pick.T (by simp [cut, ints_length, natL_length, List.length_eraseIdx]; split <;> omega) ?_
      refine Pick.T (inI64_of (by omega) (by omega)) ?_
      refine Next.by (k + 1) (by omega) (by omega) (by refine Weak.by [(0, some _), (1, some _)] (by ((repeat' first | exact rfl | exact trivial | refine And.intro ?_ ?_) <;> (repeat' first | exact rfl | exact trivial | refine And.intro ?_ ?_)); all_goals ((rw [hst, nats_snoc, ← lessI hx (show v < 8 by omega)]; rfl))) (by ((repeat' first | exact rfl | exact trivial | refine And.intro ?_ ?_) <;> (repeat' first | exact rfl | exact trivial | refine And.intro ?_ ?_)); all_goals ((rw [hst, nats_snoc, ← lessI hx (show v < 8 by omega)]; rfl))) (by rfl))
    · have h1 : k = v := by simp at h1; omega
      rw [if_pos h1, List.append_nil] at hst
      refine Pick.T (inI64_of (by omega) (by omega)) ?_
      refine Next.by (k + 1) (by omega) (by omega) (by refine Weak.by [(0, some _), (1, some _)] (by ((repeat' first | exact rfl | exact trivial | refine And.intro ?_ ?_) <;> (repeat' first | exact rfl | exact trivial | refine And.intro ?_ ?_)); all_goals ((rw [hst]))) (by ((repeat' first | exact rfl | exact trivial | refine And.intro ?_ ?_) <;> (repeat' first | exact rfl | exact trivial | refine And.intro ?_ ?_)); all_goals ((rw [hst]))) (by rfl))
  · have hge : r.length ≤ k := by rw [nats_length] at hc; simpa using hc
    rw [List.take_of_length_le hge]
    exact ⟨rfl, rfl, rfl⟩
/-! ### carcanetref08.merged -/
noncomputable def Merged8C : Con := conP 3 (fun a : List Nat × Nat × Nat => Byt a.1 ∧ a.2.1 < a.1.length ∧ a.2.2 < a.1.length) (fun a => [.one (.flat false 1 (nats a.1)), .one (.s (.i .i64 (a.2.1 : Nat))), .one (.s (.i .i64 (a.2.2 : Nat)))]) (fun a => .one (.flat true 1 (nats (mergedL a.1 a.2.1 a.2.2))))
theorem Merged8C_at {r : List Nat} {a b : Nat} (h : Byt r ∧ a < r.length ∧ b < r.length) : Merged8C.F [.one (.flat false 1 (nats r)), .one (.s (.i .i64 (a : Nat))), .one (.s (.i .i64 (b : Nat)))] = some (.one (.flat true 1 (nats (mergedL r a b))), []) :=
  conP_at (a := (r, a, b)) (fun x y _ _ h => by
    obtain ⟨r, a, b⟩ := x
    obtain ⟨r', a', b'⟩ := y
    simp at h
    obtain ⟨h1, h2, h3⟩ := h
    rw [natL_inj (ints_inj h1), show a = a' by omega, show b = b' by omega]) h
def mrgK (r : List Nat) (a b k : Nat) : List Nat := (List.range r.length).map fun i => if i = a ∨ i < k then mergeX r a b i (r.getD i 0) else r.getD i 0
theorem mrgK_length (r : List Nat) (a b k : Nat) : (mrgK r a b k).length = r.length := by simp [mrgK]
theorem mrgK_get {r : List Nat} {a b k i : Nat} (h : i < r.length) : (mrgK r a b k)[i]? = some (if i = a ∨ i < k then mergeX r a b i (r.getD i 0) else r.getD i 0) := by
  unfold mrgK
  rw [List.getElem?_map, List.getElem?_range h]; rfl
theorem mrgK_all (r : List Nat) (a b : Nat) {k : Nat} (h : r.length ≤ k) : mrgK r a b k = mergeL r a b := by
  unfold mrgK mergeL
  refine List.map_congr_left fun i hi => ?_
  rw [if_pos (.inr (by have := List.mem_range.1 hi; omega))]
theorem mrgK_zero {r : List Nat} {a b : Nat} (ha : a < r.length) : mrgK r a b 0 = r.set a (offX (r.getD a 0 ||| r.getD b 0) (2 ^ a ||| 2 ^ b)) := by
  apply List.ext_getElem?
  intro i
  rw [List.getElem?_set]
  by_cases hi : i < r.length
  · rw [mrgK_get hi]
    by_cases e : a = i
    · subst e
      rw [if_pos (.inl rfl), if_pos rfl, if_pos hi]
      unfold mergeX
      rw [if_pos rfl]
    · rw [if_neg (by omega), if_neg e, List.getD_eq_getElem?_getD, List.getElem?_eq_getElem hi]; rfl
  · rw [List.getElem?_eq_none (by rw [mrgK_length]; omega), if_neg (by omega), List.getElem?_eq_none (by omega)]
theorem mrgK_put {r : List Nat} {a b k : Nat} (hk : k < r.length) (ha : k ≠ a) (hb : (r.getD k 0).testBit b = true) : mrgK r a b (k + 1) = (mrgK r a b k).set k (r.getD k 0 ||| 2 ^ a) := by
  apply List.ext_getElem?
  intro i
  rw [List.getElem?_set]
  by_cases hi : i < r.length
  · rw [mrgK_get hi]
    by_cases e : k = i
    · subst e
      rw [if_pos (.inr (by omega)), if_pos rfl, if_pos (by rw [mrgK_length]; exact hi)]
      unfold mergeX
      rw [if_neg ha, if_pos hb]
    · rw [if_neg e, mrgK_get hi]
      by_cases h2 : i = a ∨ i < k
      · rw [if_pos h2, if_pos (by omega)]
      · rw [if_neg h2, if_neg (by omega)]
  · rw [List.getElem?_eq_none (by rw [mrgK_length]; omega), if_neg (by omega), List.getElem?_eq_none (by rw [mrgK_length]; omega)]
theorem mrgK_keep {r : List Nat} {a b k : Nat} (h : k = a ∨ (r.getD k 0).testBit b = false) : mrgK r a b (k + 1) = mrgK r a b k := by
  unfold mrgK
  refine List.map_congr_left fun i hi => ?_
  by_cases h2 : i = a ∨ i < k
  · rw [if_pos h2, if_pos (by omega)]
  · rw [if_neg h2]
    by_cases e : i = k
    · subst e
      rw [if_pos (.inr (by omega))]
      have h1 : i ≠ a := by omega
      have h2 : (r.getD i 0).testBit b = false := by rcases h with h | h; · exact absurd h h1
                                                     · exact h
      unfold mergeX
      rw [if_neg h1, if_neg (by rw [h2]; simp)]
    · rw [if_neg (by omega)]
theorem mrgK_getD {r : List Nat} {a b k : Nat} (hk : k < r.length) (ha : k ≠ a) : (mrgK r a b k).getD k 0 = r.getD k 0 := by
  rw [List.getD_eq_getElem?_getD, mrgK_get hk, if_neg (by omega)]; rfl
theorem one_shl {v : Nat} (h : v < 8) : inI64 (1 * 2 ^ ((v : Int)).toNat) = true := by
  have := pow7 (show v ≤ 7 by omega)
  rw [powI]
  generalize 2 ^ v = m at *
  exact inI64_of (by omega) (by omega)
theorem or2_lt {a b : Nat} (ha : a < 8) (hb : b < 8) : (2 ^ a ||| 2 ^ b : Nat) < 256 := Nat.or_lt_two_pow (n := 8) (Nat.pow_lt_pow_right (by omega) ha) (Nat.pow_lt_pow_right (by omega) hb)
theorem headI {x y a b : Nat} (hx : x < 256) (hy : y < 256) (ha : a < 8) (hb : b < 8) : boffI (borI (x : Int) (y : Int)) (borI (1 * 2 ^ ((a : Int)).toNat) (1 * 2 ^ ((b : Int)).toNat)) = ((offX (x ||| y) (2 ^ a ||| 2 ^ b) : Nat) : Int) := by
  have h1 := pow7 (show a ≤ 7 by omega)
  have h2 := pow7 (show b ≤ 7 by omega)
  have h3 := or2_lt ha hb
  have h4 : (x ||| y : Nat) < 256 := Nat.or_lt_two_pow (n := 8) hx hy
  rw [powI, powI, or_nat (by omega) (by omega), or_nat (by omega) (by omega), off_nat (by omega) (by omega)]
theorem orbI {x a : Nat} (hx : x < 256) (ha : a < 8) : borI (x : Int) (1 * 2 ^ ((a : Int)).toNat) = ((x ||| 2 ^ a : Nat) : Int) := by
  have h1 := pow7 (show a ≤ 7 by omega)
  rw [powI, or_nat (by omega) (by omega)]
set_option maxHeartbeats 1000000 in
theorem Merged8_ok : SoundC Try.prog T 82 Merged8C := by
  refine sound_con (X := { Γ := [(83, Less8C)], T := T, nt := 66 }) cr_none hmix hT (sound_cons Less8_ok sound_nil) Try.func82 (by rfl) (by rfl) (by rfl) (by rfl) 3 ?_
  rintro ⟨r, a, b⟩ ⟨hB, ha, hb⟩
  dsimp only at hB ha hb ⊢
  have hl := hB.1
  have hra := getD_lt hB.2 (show 0 < 256 by omega) a
  have hrb := getD_lt hB.2 (show 0 < 256 by omega) b
  refine ⟨⟨Nat.le_of_ble_eq_true rfl, Nat.le_of_ble_eq_true rfl⟩, ?_⟩
  refine Pick.T (by simp [cut, ints_length, natL_length]; omega) ?_
  refine Idx.by a rfl (by rw [nats_length]; exact ha) ?_
  refine Look.by _ (nats_get ha) ?_
  refine Idx.by b rfl (by rw [nats_length]; exact hb) ?_
  refine Look.by _ (nats_get hb) ?_
  refine Pick.T (inK_u64 (by omega) (by omega)) ?_
  refine Pick.T (by simp; omega) ?_
  refine Pick.T (one_shl (by omega)) ?_
  refine Pick.T (inK_u64 (by omega) (by omega)) ?_
  refine Pick.T (by simp; omega) ?_
  refine Pick.T (one_shl (by omega)) ?_
  refine Idx.by a rfl (by simp [cut, ints_length, natL_length]; omega) ?_
  refine Look.by _ (by show (nats r)[a]? = _; exact nats_get ha) ?_
  refine Seg.by (by kernel_rfl) ?_
  refine LoopP.intro (α := Nat) (fun k => k ≤ r.length) (fun k => r.length - k) (fun k => [(0, .sl 0 none none), (1, .s (.i .i64 (a : Nat))), (2, .s (.i .i64 (b : Nat))), (7, .sl 1 none none), (8, .s (.i .i64 k))])
    (fun k => [(0, some (.flat false 1 (nats r))), (1, some (.flat true 1 (nats (mrgK r a b k))))]) 2 0 (by omega) (by refine Weak.by [(0, some _), (1, some _)] (by ((repeat' first | exact rfl | exact trivial | refine And.intro ?_ ?_) <;> (repeat' first | exact rfl | exact trivial | refine And.intro ?_ ?_)); all_goals ((rw [mrgK_zero ha, nats_set, ← headI hra hrb (by omega) (by omega)]; rfl))) (by ((repeat' first | exact rfl | exact trivial | refine And.intro ?_ ?_) <;> (repeat' first | exact rfl | exact trivial | refine And.intro ?_ ?_)); all_goals ((rw [mrgK_zero ha, nats_set, ← headI hra hrb (by omega) (by omega)]; rfl))) (by rfl)) ?_
  rintro k hk
  refine Pick.by (fun hc => ?_) (fun hc => ?_)
  · have hlt : k < r.length := by rw [nats_length] at hc; simpa using hc
    have hx := getD_lt hB.2 (show 0 < 256 by omega) k
    have skip : k = a ∨ (r.getD k 0).testBit b = false → mrgK r a b (k + 1) = mrgK r a b k := mrgK_keep
    refine Pick.by (fun h1 => ?_) (fun h1 => ?_)
    · have h1 : k ≠ a := by simp at h1; omega
      refine Idx.by k rfl (by rw [nats_length]; exact hlt) ?_
      refine Look.by _ (nats_get hlt) ?_
      refine Pick.T (inK_u64 (by omega) (by omega)) ?_
      refine Pick.T (by simp; omega) ?_
      refine Pick.by (fun h2 => ?_) (fun h2 => ?_)
      · have h2 : (r.getD k 0).testBit b = true := by rw [← bitI _ _ hx]; exact h2
        refine Idx.by k rfl (by rw [nats_length, mrgK_length]; exact hlt) ?_
        refine Look.by _ (nats_get (by rw [mrgK_length]; exact hlt)) ?_
        refine Pick.T (inK_u64 (by omega) (by omega)) ?_
        refine Pick.T (by simp; omega) ?_
        refine Pick.T (one_shl (by omega)) ?_
        refine Idx.by k rfl (by rw [nats_length, mrgK_length]; exact hlt) ?_
        refine Look.by _ (nats_get (by rw [mrgK_length]; exact hlt)) ?_
        refine Pick.T (inI64_of (by omega) (by omega)) ?_
        refine Next.by (k + 1) (by omega) (by omega) (by refine Weak.by [(0, some _), (1, some _)] (by ((repeat' first | exact rfl | exact trivial | refine And.intro ?_ ?_) <;> (repeat' first | exact rfl | exact trivial | refine And.intro ?_ ?_)); all_goals ((rw [mrgK_put hlt h1 h2, nats_set, ← orbI hx (show a < 8 by omega), ← mrgK_getD (a := a) (b := b) (k := k) hlt h1]; rfl))) (by ((repeat' first | exact rfl | exact trivial | refine And.intro ?_ ?_) <;> (repeat' first | exact rfl | exact trivial | refine And.intro ?_ ?_)); all_goals ((rw [mrgK_put hlt h1 h2, nats_set, ← orbI hx (show a < 8 by omega), ← mrgK_getD (a := a) (b := b) (k := k) hlt h1]; rfl))) (by rfl))
      · have h2 : (r.getD k 0).testBit b = false := by rw [← bitI _ _ hx]; exact h2
        refine Pick.T (inI64_of (by omega) (by omega)) ?_
        refine Next.by (k + 1) (by omega) (by omega) (by refine Weak.by [(0, some _), (1, some _)] (by ((repeat' first | exact rfl | exact trivial | refine And.intro ?_ ?_) <;> (repeat' first | exact rfl | exact trivial | refine And.intro ?_ ?_)); all_goals ((rw [skip (.inr h2)]))) (by ((repeat' first | exact rfl | exact trivial | refine And.intro ?_ ?_) <;> (repeat' first | exact rfl | exact trivial | refine And.intro ?_ ?_)); all_goals ((rw [skip (.inr h2)]))) (by rfl))
    · have h1 : k = a := by simp at h1; omega
      refine Pick.T (inI64_of (by omega) (by omega)) ?_
      refine Next.by (k + 1) (by omega) (by omega) (by refine Weak.by [(0, some _), (1, some _)] (by ((repeat' first | exact rfl | exact trivial | refine And.intro ?_ ?_) <;> (repeat' first | exact rfl | exact trivial | refine And.intro ?_ ?_)); all_goals ((rw [skip (.inl h1)]))) (by ((repeat' first | exact rfl | exact trivial | refine And.intro ?_ ?_) <;> (repeat' first | exact rfl | exact trivial | refine And.intro ?_ ?_)); all_goals ((rw [skip (.inl h1)]))) (by rfl))
  · have hge : r.length ≤ k := by rw [nats_length] at hc; simpa using hc
    rw [mrgK_all r a b hge]
    refine Call.by _ _ (Less8C_at ⟨hB.merge ha, by rw [mergeL_length]; exact hb⟩) ?_
    exact ⟨rfl, rfl, rfl⟩
/-! ### carcanetref08.is -/
noncomputable def Is8C : Con := conP 2 (fun a : List Nat × Int => Byt a.1 ∧ (a.2 = 1 ∧ a.1.length = 4 ∨ a.2 = 2 ∧ a.1.length = 5)) (fun a => [.one (.flat false 1 (nats a.1)), .one (.s (.i .i64 a.2))]) (fun a => .one (.s (.b (isL a.1 a.2))))
theorem Is8C_at {r : List Nat} {k : Int} (h : Byt r ∧ (k = 1 ∧ r.length = 4 ∨ k = 2 ∧ r.length = 5)) : Is8C.F [.one (.flat false 1 (nats r)), .one (.s (.i .i64 k))] = some (.one (.s (.b (isL r k))), []) :=
  conP_at (a := (r, k)) (fun x y _ _ h => by
    obtain ⟨r, a⟩ := x
    obtain ⟨r', a'⟩ := y
    simp at h
    obtain ⟨h1, h2⟩ := h
    rw [natL_inj (ints_inj h1), h2]) h
theorem eqI {x y : Nat} : ((x : Int) == (y : Int)) = (x == y) := by
  rw [Bool.eq_iff_iff]
  simp
  omega
theorem or15 {x c : Nat} (hx : x < 256) (hc : c < 256) : (borI (x : Int) (c : Int) == 15) = ((x ||| c) == 15) := by
  rw [or_nat (by omega) (by omega)]
  exact eqI (y := 15)
theorem bothI {p q : Nat} (hp : p < 8) (hq : q < 8) : boffI 31 (borI (1 * 2 ^ ((p : Int)).toNat) (1 * 2 ^ ((q : Int)).toNat)) = ((offX 31 (2 ^ p ||| 2 ^ q) : Nat) : Int) := by
  have h3 := or2_lt hp hq
  have h1 := pow7 (show p ≤ 7 by omega)
  have h2 := pow7 (show q ≤ 7 by omega)
  rw [powI, powI, or_nat (by omega) (by omega)]
  exact off_nat (x := 31) (by omega) (by omega)
theorem off31_lt (m : Nat) : offX 31 m < 32 := by
  apply Nat.lt_pow_two_of_testBit (n := 5)
  intro i hi
  rw [off_bit, Nat.testBit_lt_two_pow (Nat.lt_of_lt_of_le (show 31 < 2 ^ 5 by omega) (Nat.pow_le_pow_right (by omega) hi))]
  rfl
theorem maskI {x p q : Nat} (hx : x < 256) (hp : p < 8) (hq : q < 8) : (andI (x : Int) (boffI 31 (borI (1 * 2 ^ ((p : Int)).toNat) (1 * 2 ^ ((q : Int)).toNat))) == boffI 31 (borI (1 * 2 ^ ((p : Int)).toNat) (1 * 2 ^ ((q : Int)).toNat))) = ((x &&& offX 31 (2 ^ p ||| 2 ^ q)) == offX 31 (2 ^ p ||| 2 ^ q)) := by
  have := off31_lt (2 ^ p ||| 2 ^ q)
  rw [bothI hp hq, and_nat (by omega) (by omega)]
  exact eqI
set_option maxHeartbeats 1000000 in
theorem Is8_ok : SoundC Try.prog T 81 Is8C := by
  refine sound_con (X := { Γ := [], T := T, nt := 71 }) cr_none hmix hT sound_nil Try.func81 (by rfl) (by rfl) (by rfl) (by rfl) 2 ?_
  rintro ⟨r, k⟩ ⟨hB, hk⟩
  dsimp only at hB hk ⊢
  have hx : ∀ i, r.getD i 0 < 256 := fun i => getD_lt hB.2 (show 0 < 256 by omega) i
  refine ⟨⟨Nat.le_of_ble_eq_true rfl, Nat.le_of_ble_eq_true rfl⟩, ?_⟩
  refine Pick.by (fun h1 => ?_) (fun h1 => ?_)
  · have h1 : k = 1 := by simpa using h1
    have hl : r.length = 4 := by omega
    subst h1
    have e : isL r 1 = ((r.getD 0 0 ||| 1 == 15) && (r.getD 1 0 ||| 2 == 15) && (r.getD 2 0 ||| 4 == 15) && (r.getD 3 0 ||| 8 == 15)) := if_pos rfl
    rw [e]
    have o0 := or15 (c := 1) (hx 0) (by omega)
    have o1 := or15 (c := 2) (hx 1) (by omega)
    have o2 := or15 (c := 4) (hx 2) (by omega)
    have o3 := or15 (c := 8) (hx 3) (by omega)
    rw [← o0, ← o1, ← o2, ← o3]
    refine Idx.by 0 rfl (by rw [nats_length]; omega) ?_
    refine Look.by _ (nats_get (by omega)) ?_
    refine Pick.by (fun h0 => ?_) (fun h0 => ?_)
    · refine Idx.by 1 rfl (by rw [nats_length]; omega) ?_
      refine Look.by _ (nats_get (by omega)) ?_
      have h0' : (borI ((r.getD 0 0 : Nat) : Int) ((1 : Nat) : Int) == 15) = true := h0
      rw [h0']
      refine Pick.by (fun h1 => ?_) (fun h1 => ?_)
      · refine Idx.by 2 rfl (by rw [nats_length]; omega) ?_
        refine Look.by _ (nats_get (by omega)) ?_
        have h1' : (borI ((r.getD 1 0 : Nat) : Int) ((2 : Nat) : Int) == 15) = true := h1
        rw [h1']
        refine Pick.by (fun h2 => ?_) (fun h2 => ?_)
        · refine Idx.by 3 rfl (by rw [nats_length]; omega) ?_
          refine Look.by _ (nats_get (by omega)) ?_
          have h2' : (borI ((r.getD 2 0 : Nat) : Int) ((4 : Nat) : Int) == 15) = true := h2
          rw [h2']
          exact ⟨rfl, rfl⟩
        · have h2' : (borI ((r.getD 2 0 : Nat) : Int) ((4 : Nat) : Int) == 15) = false := h2
          rw [h2']
          exact ⟨rfl, rfl⟩
      · have h1' : (borI ((r.getD 1 0 : Nat) : Int) ((2 : Nat) : Int) == 15) = false := h1
        rw [h1']
        exact ⟨rfl, rfl⟩
    · have h0' : (borI ((r.getD 0 0 : Nat) : Int) ((1 : Nat) : Int) == 15) = false := h0
      rw [h0']
      exact ⟨rfl, rfl⟩
  have h1 : ¬ k = 1 := by simpa using h1
  have hk2 : k = 2 := by omega
  have hl : r.length = 5 := by omega
  have e : isL r k = (List.range 5).any fun p => (List.range p).any fun q => isB r p q := if_neg h1
  have yes : ∀ p q, p < 5 → q < p → isB r p q = true → isL r k = true := fun p q hp hq h => by
    rw [e]
    exact List.any_eq_true.2 ⟨p, List.mem_range.2 hp, List.any_eq_true.2 ⟨q, List.mem_range.2 hq, h⟩⟩
  refine LoopP.intro (α := Nat) (fun p => p ≤ 5 ∧ ∀ p' q', p' < p → q' < p' → isB r p' q' = false) (fun p => 5 - p) (fun p => [(0, .sl 0 none none), (5, .s (.i .i64 p))])
    (fun p => [(0, some (.flat false 1 (nats r)))]) 1 0 ⟨by omega, by intros; omega⟩ (by refine Weak.by [(0, some _)] (by ((repeat' first | exact rfl | exact trivial | refine And.intro ?_ ?_) <;> (repeat' first | exact rfl | exact trivial | refine And.intro ?_ ?_))) (by ((repeat' first | exact rfl | exact trivial | refine And.intro ?_ ?_) <;> (repeat' first | exact rfl | exact trivial | refine And.intro ?_ ?_))) (by rfl)) ?_
  rintro p ⟨hp, hno⟩
  refine Pick.by (fun hc => ?_) (fun hc => ?_)
  · have hp5 : p < 5 := by simp at hc; omega
    refine LoopP.intro (α := Nat) (fun q => q ≤ p ∧ ∀ q', q' < q → isB r p q' = false) (fun q => p - q) (fun q => [(0, .sl 0 none none), (5, .s (.i .i64 p)), (6, .s (.i .i64 q))])
      (fun q => [(0, some (.flat false 1 (nats r)))]) 1 0 ⟨by omega, by intros; omega⟩ (by refine Weak.by [(0, some _)] (by ((repeat' first | exact rfl | exact trivial | refine And.intro ?_ ?_) <;> (repeat' first | exact rfl | exact trivial | refine And.intro ?_ ?_))) (by ((repeat' first | exact rfl | exact trivial | refine And.intro ?_ ?_) <;> (repeat' first | exact rfl | exact trivial | refine And.intro ?_ ?_))) (by rfl)) ?_
    rintro q ⟨hq, hno2⟩
    refine Pick.by (fun hc2 => ?_) (fun hc2 => ?_)
    · have hqp : q < p := by simp at hc2; omega
      refine Pick.T (inK_u64 (by omega) (by omega)) ?_
      refine Pick.T (by simp; omega) ?_
      refine Pick.T (one_shl (by omega)) ?_
      refine Pick.T (inK_u64 (by omega) (by omega)) ?_
      refine Pick.T (by simp; omega) ?_
      refine Pick.T (one_shl (by omega)) ?_
      refine Idx.by p rfl (by rw [nats_length]; omega) ?_
      refine Look.by _ (nats_get (by omega)) ?_
      have m1 := maskI (p := p) (q := q) (hx p) (by omega) (by omega)
      have m2 := maskI (p := p) (q := q) (hx q) (by omega) (by omega)
      have hB2 : isB r p q = (((r.getD p 0 &&& offX 31 (2 ^ p ||| 2 ^ q)) == offX 31 (2 ^ p ||| 2 ^ q)) && ((r.getD q 0 &&& offX 31 (2 ^ p ||| 2 ^ q)) == offX 31 (2 ^ p ||| 2 ^ q))) := rfl
      have next : isB r p q = false → ∀ q', q' < q + 1 → isB r p q' = false := fun h q' hq' => by
        by_cases e : q' = q
        · rw [e]; exact h
        · exact hno2 q' (by omega)
      refine Pick.by (fun h3 => ?_) (fun h3 => ?_)
      · rw [m1.symm.trans h3] at hB2
        refine Idx.by q rfl (by rw [nats_length]; omega) ?_
        refine Look.by _ (nats_get (by omega)) ?_
        refine Pick.by (fun h4 => ?_) (fun h4 => ?_)
        · rw [m2.symm.trans h4] at hB2
          refine ⟨rfl, ?_⟩
          show Sc.b true = Sc.b (isL r k)
          rw [yes p q hp5 hqp hB2]
        · rw [m2.symm.trans h4] at hB2
          refine Pick.T (inI64_of (by omega) (by omega)) ?_
          refine Next.by (q + 1) ⟨by omega, next hB2⟩ (by omega) (by refine Weak.by [(0, some _)] (by ((repeat' first | exact rfl | exact trivial | refine And.intro ?_ ?_) <;> (repeat' first | exact rfl | exact trivial | refine And.intro ?_ ?_))) (by ((repeat' first | exact rfl | exact trivial | refine And.intro ?_ ?_) <;> (repeat' first | exact rfl | exact trivial | refine And.intro ?_ ?_))) (by rfl))
      · rw [m1.symm.trans h3] at hB2
        refine Pick.T (inI64_of (by omega) (by omega)) ?_
        refine Next.by (q + 1) ⟨by omega, next hB2⟩ (by omega) (by refine Weak.by [(0, some _)] (by ((repeat' first | exact rfl | exact trivial | refine And.intro ?_ ?_) <;> (repeat' first | exact rfl | exact trivial | refine And.intro ?_ ?_))) (by ((repeat' first | exact rfl | exact trivial | refine And.intro ?_ ?_) <;> (repeat' first | exact rfl | exact trivial | refine And.intro ?_ ?_))) (by rfl))
    · have hqp : p ≤ q := by simp at hc2; omega
      refine Pick.T (inI64_of (by omega) (by omega)) ?_
      refine Next.by (p + 1) ⟨by omega, fun p' q' h1 h2 => ?_⟩ (by omega) (by refine Weak.by [(0, some _)] (by ((repeat' first | exact rfl | exact trivial | refine And.intro ?_ ?_) <;> (repeat' first | exact rfl | exact trivial | refine And.intro ?_ ?_))) (by ((repeat' first | exact rfl | exact trivial | refine And.intro ?_ ?_) <;> (repeat' first | exact rfl | exact trivial | refine And.intro ?_ ?_))) (by rfl))
      by_cases e : p' = p
      · subst e; exact hno2 q' (by omega)
      · exact hno p' q' (by omega) h2
  · have hp5 : 5 ≤ p := by simp at hc; omega
    refine ⟨rfl, ?_⟩
    show Sc.b false = Sc.b (isL r k)
    congr 1
    rw [e]
    symm
    rw [List.any_eq_false]
    intro p' hp'
    rw [Bool.not_eq_true, List.any_eq_false]
    intro q' hq'
    rw [hno p' q' (by have := List.mem_range.1 hp'; omega) (List.mem_range.1 hq')]
    simp
end Go.Sh

set_option linter.unusedVariables false
set_option linter.unusedSimpArgs false
namespace Go.Sh
open Go.Proofs
/-! ### carcanetref08.Rows -/
noncomputable def Rows8C : Con := conP 2 (fun a : Int × List Ed => RightP a.1 a.2 ∧ a.1 ≤ 8) (fun a => [grV a.1 a.2]) (fun a => .one (.flat true 1 (nats (rowsL a.1 a.2))))
theorem Rows8C_at {n : Int} {E : List Ed} (h : RightP n E ∧ n ≤ 8) : Rows8C.F [grV n E] = some (.one (.flat true 1 (nats (rowsL n E))), []) :=
  conP_at (a := (n, E)) (fun x y _ _ h => by
    obtain ⟨n, E⟩ := x
    obtain ⟨n', E'⟩ := y
    simp at h
    obtain ⟨rfl, rfl⟩ := grV_inj h
    rfl) h
theorem rows_byt {n : Int} {E : List Ed} (hR : RightP n E) (h8 : n ≤ 8) : Byt (rowsL n E) := by
  have hE : ∀ x ∈ E, okE n x := fun x hx => hR.2.2.2.1 x hx
  have hl := rowsL_length hE
  have hs := rowsL_sq hE
  refine ⟨by omega, fun x hx => ?_⟩
  obtain ⟨i, hi, rfl⟩ := List.mem_iff_getElem.1 hx
  apply Nat.lt_pow_two_of_testBit (n := 8)
  intro j hj
  cases hc : (rowsL n E)[i].testBit j with
  | false => rfl
  | true =>
    have : bitL (rowsL n E) i j = true := by
      unfold bitL
      rw [List.getD_eq_getElem?_getD, List.getElem?_eq_getElem hi]; exact hc
    have := hs.bnd _ _ this
    omega
theorem rows_take_byt {n : Int} {E : List Ed} (hR : RightP n E) (h8 : n ≤ 8) (k : Nat) : Byt ((E.take k).foldl rowStep (List.replicate n.toNat 0)) := rows_byt (right_take hR k) h8
set_option maxHeartbeats 1000000 in
theorem Rows8_ok : SoundC Try.prog T 55 Rows8C := by
  refine sound_con (X := { Γ := [], T := T, nt := 52 }) cr_none hmix hT sound_nil Try.func55 (by rfl) (by rfl) (by rfl) (by rfl) 2 ?_
  rintro ⟨n, E⟩ ⟨hR, h8⟩
  dsimp only at hR h8 ⊢
  have hn0 := hR.1
  have hE4 := hR.2.2.1
  refine ⟨⟨Nat.le_of_ble_eq_true rfl, Nat.le_of_ble_eq_true rfl⟩, ?_⟩
  refine Pick.T (by simp) ?_
  refine Idx.by n.toNat (by omega) (by omega) ?_
  refine LoopP.intro (α := Nat) (fun k => k ≤ E.length) (fun k => E.length - k) (fun k => [(1, .ptr 0 0), (3, .sl 2 none none), (4, .s (.i .i64 k))])
    (fun k => [(0, some (.blk [.s (.i .i64 n), .sl 1 none none])), (1, some (.flat false 2 (edges E))), (2, some (.flat true 1 (nats ((E.take k).foldl rowStep (List.replicate n.toNat 0)))))]) 3 0 (by omega) (by refine Weak.by [(0, some _), (1, some _), (2, some _)] (by ((repeat' first | exact rfl | exact trivial | refine And.intro ?_ ?_) <;> (repeat' first | exact rfl | exact trivial | refine And.intro ?_ ?_)); all_goals ((rw [List.take_zero, List.foldl_nil, show nats (List.replicate n.toNat 0) = List.replicate n.toNat [.i .i64 0] by simp [nats, natL, ints]]))) (by ((repeat' first | exact rfl | exact trivial | refine And.intro ?_ ?_) <;> (repeat' first | exact rfl | exact trivial | refine And.intro ?_ ?_)); all_goals ((rw [List.take_zero, List.foldl_nil, show nats (List.replicate n.toNat 0) = List.replicate n.toNat [.i .i64 0] by simp [nats, natL, ints]]))) (by rfl)) ?_
  rintro k hk
  have hB := rows_take_byt hR h8 k
  have hlen : ((E.take k).foldl rowStep (List.replicate n.toNat 0)).length = n.toNat := (rows_bit _ _ (by simp) fun x hx => hR.2.2.2.1 x (List.mem_of_mem_take hx)).1
  refine Pick.by (fun hc => ?_) (fun hc => ?_)
  · have hlt : k < E.length := by simpa [edges_length] using hc
    have hst : (E.take (k + 1)).foldl rowStep (List.replicate n.toNat 0) = rowStep ((E.take k).foldl rowStep (List.replicate n.toNat 0)) E[k] := by rw [List.take_succ_eq_append_getElem hlt, List.foldl_append]; rfl
    obtain ⟨o1, o2, o3⟩ := hR.2.2.2.1 _ (List.getElem_mem hlt)
    have hget := edges_get (List.getElem?_eq_getElem hlt)
    obtain ⟨a, ha⟩ : ∃ a : Nat, E[k].1 = a := ⟨E[k].1.toNat, by omega⟩
    obtain ⟨b, hb⟩ : ∃ b : Nat, E[k].2 = b := ⟨E[k].2.toNat, by omega⟩
    rw [ha, hb] at hget
    have hst2 : rowStep ((E.take k).foldl rowStep (List.replicate n.toNat 0)) E[k] = (((E.take k).foldl rowStep (List.replicate n.toNat 0)).set a (((E.take k).foldl rowStep (List.replicate n.toNat 0)).getD a 0 ||| 2 ^ b)).set b ((((E.take k).foldl rowStep (List.replicate n.toNat 0)).set a (((E.take k).foldl rowStep (List.replicate n.toNat 0)).getD a 0 ||| 2 ^ b)).getD b 0 ||| 2 ^ a) := by
      unfold rowStep; rw [ha, hb]; rfl
    rw [hst2] at hst
    generalize (E.take k).foldl rowStep (List.replicate n.toNat 0) = r at *
    have hx := getD_lt hB.2 (show 0 < 256 by omega) a
    have hs256 : (r.getD a 0 ||| 2 ^ b : Nat) < 256 := Nat.or_lt_two_pow (n := 8) hx (Nat.pow_lt_pow_right (by omega) (by omega))
    have hy : (r.set a (r.getD a 0 ||| 2 ^ b)).getD b 0 < 256 := getD_lt (fun x hx => by
      rcases List.mem_or_eq_of_mem_set hx with h | h
      · exact hB.2 x h
      · rw [h]; exact hs256) (by omega) b
    have hset : nats (r.set a (r.getD a 0 ||| 2 ^ b)) = (nats r).set a [.i .i64 (borI ((r.getD a 0 : Nat) : Int) (1 * 2 ^ ((b : Int)).toNat))] := by
      rw [nats_set, orbI hx (by omega)]
    refine Idx.by k rfl (by rw [edges_length]; exact hlt) ?_
    refine Look.by _ hget ?_
    refine Idx.by k rfl (by rw [edges_length]; exact hlt) ?_
    refine Look.by _ hget ?_
    refine Idx.by a rfl (by rw [nats_length]; omega) ?_
    refine Look.by _ (nats_get (by omega)) ?_
    refine Pick.T (inK_u64 (by omega) (by omega)) ?_
    refine Pick.T (by simp; omega) ?_
    refine Pick.T (one_shl (by omega)) ?_
    refine Idx.by a rfl (by rw [nats_length]; omega) ?_
    refine Look.by _ (nats_get (by omega)) ?_
    refine Idx.by b rfl (by simp [ints_length, natL_length]; omega) ?_
    refine Look.by _ (by show ((nats r).set a [.i .i64 (borI ((r.getD a 0 : Nat) : Int) (1 * 2 ^ ((b : Int)).toNat))])[b]? = _; rw [← hset]; exact nats_get (by rw [List.length_set]; omega)) ?_
    refine Pick.T (inK_u64 (by omega) (by omega)) ?_
    refine Pick.T (by simp; omega) ?_
    refine Pick.T (one_shl (by omega)) ?_
    refine Idx.by b rfl (by simp [ints_length, natL_length]; omega) ?_
    refine Look.by _ (by show ((nats r).set a [.i .i64 (borI ((r.getD a 0 : Nat) : Int) (1 * 2 ^ ((b : Int)).toNat))])[b]? = _; rw [← hset]; exact nats_get (by rw [List.length_set]; omega)) ?_
    refine Pick.T (inI64_of (by omega) (by omega)) ?_
    refine Next.by (k + 1) (by omega) (by omega) (by refine Weak.by [(0, some _), (1, some _), (2, some _)] (by ((repeat' first | exact rfl | exact trivial | refine And.intro ?_ ?_) <;> (repeat' first | exact rfl | exact trivial | refine And.intro ?_ ?_)); all_goals ((rw [hst, nats_set, hset, ← orbI hy (show a < 8 by omega)]; rfl))) (by ((repeat' first | exact rfl | exact trivial | refine And.intro ?_ ?_) <;> (repeat' first | exact rfl | exact trivial | refine And.intro ?_ ?_)); all_goals ((rw [hst, nats_set, hset, ← orbI hy (show a < 8 by omega)]; rfl))) (by rfl))
  · have hge : E.length ≤ k := by simpa [edges_length] using hc
    rw [List.take_of_length_le hge]
    exact ⟨rfl, rfl, rfl⟩
/-! ### carcanetref08.comes -/
theorem size_pos {k : Int} (hk : k = 1 ∨ k = 2) : ((sizeN k : Nat) : Int) = (patG k).1 := by rcases hk with rfl | rfl <;> decide
noncomputable def Comes8C (m : Nat) : Con := conP 2 (fun a : List Nat × Int => Byt a.1 ∧ a.1.length ≤ m ∧ (a.2 = 1 ∨ a.2 = 2)) (fun a => [.one (.flat false 1 (nats a.1)), .one (.s (.i .i64 a.2))]) (fun a => .one (.s (.b (hasL a.1 a.2))))
theorem Comes8C_at {m : Nat} {r : List Nat} {k : Int} (h : Byt r ∧ r.length ≤ m ∧ (k = 1 ∨ k = 2)) : (Comes8C m).F [.one (.flat false 1 (nats r)), .one (.s (.i .i64 k))] = some (.one (.s (.b (hasL r k))), []) :=
  conP_at (a := (r, k)) (fun x y _ _ h => by
    obtain ⟨r, a⟩ := x
    obtain ⟨r', a'⟩ := y
    simp at h
    obtain ⟨h1, h2⟩ := h
    rw [natL_inj (ints_inj h1), h2]) h
theorem has_small {r : List Nat} {k : Int} (h : r.length ≤ sizeN k) : hasL r k = (decide (r.length = sizeN k) && isL r k) := comes_end h
theorem has_step {r : List Nat} {k : Int} (h : sizeN k < r.length) : hasL r k = (((List.range r.length).any fun a => (List.range r.length).any fun b => decide (a < b) && (bitL r a b && hasL (mergedL r a b) k)) || (List.range r.length).any fun v => hasL (lessL r v) k) := by
  obtain ⟨f, hf⟩ : ∃ f, r.length = f + 1 := ⟨r.length - 1, by omega⟩
  have e : hasL r k = (((List.range r.length).any fun a => (List.range r.length).any fun b => decide (a < b) && (bitL r a b && comesL f (mergedL r a b) k)) || (List.range r.length).any fun v => comesL f (lessL r v) k) := by
    unfold hasL
    rw [hf]
    show (if r.length ≤ sizeN k then _ else _) = _
    rw [if_neg (by omega), hf]
  rw [e]
  congr 1
  · rw [Bool.eq_iff_iff, List.any_eq_true, List.any_eq_true]
    have : ∀ a, (∃ b ∈ List.range r.length, (decide (a < b) && (bitL r a b && comesL f (mergedL r a b) k)) = true) ↔ (∃ b ∈ List.range r.length, (decide (a < b) && (bitL r a b && hasL (mergedL r a b) k)) = true) := fun a => by
      refine exists_congr fun b => and_congr_right fun hb => ?_
      rw [hasL, mergedL_length (List.mem_range.1 hb), hf]; rfl
    refine exists_congr fun a => and_congr_right fun ha => ?_
    rw [List.any_eq_true, List.any_eq_true]
    exact this a
  · rw [Bool.eq_iff_iff, List.any_eq_true, List.any_eq_true]
    refine exists_congr fun v => and_congr_right fun hv => ?_
    rw [hasL, lessL_length (List.mem_range.1 hv), hf]; rfl
set_option maxHeartbeats 2000000 in
theorem Comes8_ok : ∀ m : Nat, SoundC Try.prog T 54 (Comes8C m) := by
  intro m
  induction m with
  | zero =>
    refine sound_con (X := { Γ := [(49, SizeC)], T := T, nt := 63 }) cr_none hmix hT (sound_cons Size_ok sound_nil) Try.func54 (by rfl) (by rfl) (by rfl) (by rfl) 2 ?_
    rintro ⟨r, k⟩ ⟨hB, hm, hk⟩
    dsimp only at hB hm hk ⊢
    have hz := size_pos hk
    have hz0 : 0 < sizeN k := by rcases hk with rfl | rfl <;> decide
    refine ⟨⟨Nat.le_of_ble_eq_true rfl, Nat.le_of_ble_eq_true rfl⟩, ?_⟩
    refine Call.by _ _ (SizeC_at k) ?_
    refine Pick.T (by simp [ints_length, natL_length]; omega) ?_
    refine Call.by _ _ (SizeC_at k) ?_
    refine Pick.F (by simp [ints_length, natL_length]; omega) ?_
    refine ⟨rfl, ?_⟩
    show Sc.b false = Sc.b (hasL r k)
    rw [has_small (by omega), decide_eq_false (by omega)]; rfl
  | succ m ih =>
    refine sound_con (X := { Γ := [(49, SizeC), (81, Is8C), (82, Merged8C), (83, Less8C), (54, Comes8C m)], T := T, nt := 63 }) cr_none hmix hT (sound_cons Size_ok (sound_cons Is8_ok (sound_cons Merged8_ok (sound_cons Less8_ok (sound_cons ih sound_nil))))) Try.func54 (by rfl) (by rfl) (by rfl) (by rfl) 2 ?_
    rintro ⟨r, k⟩ ⟨hB, hm, hk⟩
    dsimp only at hB hm hk ⊢
    have hz := size_pos hk
    have hl8 := hB.1
    refine ⟨⟨Nat.le_of_ble_eq_true rfl, Nat.le_of_ble_eq_true rfl⟩, ?_⟩
    refine Call.by _ _ (SizeC_at k) ?_
    refine Pick.by (fun hc => ?_) (fun hc => ?_)
    · have hle : r.length ≤ sizeN k := by rw [nats_length] at hc; have hc : decide ((r.length : Int) ≤ (patG k).1) = true := hc; have := of_decide_eq_true hc; omega
      rw [has_small hle]
      refine Call.by _ _ (SizeC_at k) ?_
      refine Pick.by (fun h2 => ?_) (fun h2 => ?_)
      · have h2 : r.length = sizeN k := by rw [nats_length] at h2; have h2 : ((r.length : Int) == (patG k).1) = true := h2; have := eq_of_beq h2; omega
        refine Call.by _ _ (Is8C_at ⟨hB, hk.elim (fun e => .inl ⟨e, by rw [h2, e]; decide⟩) fun e => .inr ⟨e, by rw [h2, e]; decide⟩⟩) ?_
        refine ⟨rfl, ?_⟩
        show Sc.b (isL r k) = Sc.b _
        rw [decide_eq_true h2, Bool.true_and]
      · have h2 : ¬ r.length = sizeN k := by rw [nats_length] at h2; have h2 : ((r.length : Int) == (patG k).1) = false := h2; intro e; simp at h2; omega
        refine ⟨rfl, ?_⟩
        show Sc.b false = Sc.b _
        rw [decide_eq_false h2, Bool.false_and]
    have hgt : sizeN k < r.length := by rw [nats_length] at hc; have hc : decide ((r.length : Int) ≤ (patG k).1) = false := hc; have := of_decide_eq_false hc; omega
    have hst := has_step hgt
    have yes1 : ∀ a b, a < b → b < r.length → bitL r a b = true → hasL (mergedL r a b) k = true → Sc.b true = Sc.b (hasL r k) := fun a b h1 h2 h3 h4 => by
      rw [hst]
      have : (List.range r.length).any (fun a => (List.range r.length).any fun b => decide (a < b) && (bitL r a b && hasL (mergedL r a b) k)) = true := List.any_eq_true.2 ⟨a, List.mem_range.2 (by omega), List.any_eq_true.2 ⟨b, List.mem_range.2 h2, by rw [h3, h4]; simp [h1]⟩⟩
      rw [this]; rfl
    have yes2 : ∀ v, v < r.length → hasL (lessL r v) k = true → Sc.b true = Sc.b (hasL r k) := fun v h1 h2 => by
      rw [hst]
      have : (List.range r.length).any (fun v => hasL (lessL r v) k) = true := List.any_eq_true.2 ⟨v, List.mem_range.2 h1, h2⟩
      rw [this, Bool.or_true]
    refine LoopP.intro (α := Nat) (fun a => a ≤ r.length ∧ ∀ a' b', a' < a → a' < b' → b' < r.length → bitL r a' b' = true → hasL (mergedL r a' b') k = false) (fun a => r.length - a) (fun a => [(0, .sl 0 none none), (1, .s (.i .i64 k)), (5, .s (.i .i64 (nats r).length)), (6, .s (.i .i64 a))])
      (fun a => [(0, some (.flat false 1 (nats r)))]) 1 0 ⟨by omega, by intros; omega⟩ (by refine Weak.by [(0, some _)] (by ((repeat' first | exact rfl | exact trivial | refine And.intro ?_ ?_) <;> (repeat' first | exact rfl | exact trivial | refine And.intro ?_ ?_))) (by ((repeat' first | exact rfl | exact trivial | refine And.intro ?_ ?_) <;> (repeat' first | exact rfl | exact trivial | refine And.intro ?_ ?_))) (by rfl)) ?_
    rintro a ⟨ha, hno⟩
    refine Pick.by (fun hc => ?_) (fun hc => ?_)
    · have hlt : a < r.length := by rw [nats_length] at hc; simpa using hc
      refine Pick.T (inI64_of (by omega) (by omega)) ?_
      refine LoopP.intro (α := Nat) (fun b => a < b ∧ b ≤ r.length ∧ ∀ b', a < b' → b' < b → bitL r a b' = true → hasL (mergedL r a b') k = false) (fun b => r.length - b) (fun b => [(0, .sl 0 none none), (1, .s (.i .i64 k)), (5, .s (.i .i64 (nats r).length)), (6, .s (.i .i64 a)), (7, .s (.i .i64 b))])
        (fun b => [(0, some (.flat false 1 (nats r)))]) 1 (a + 1) ⟨by omega, by omega, by intros; omega⟩ (by refine Weak.by [(0, some _)] (by ((repeat' first | exact rfl | exact trivial | refine And.intro ?_ ?_) <;> (repeat' first | exact rfl | exact trivial | refine And.intro ?_ ?_))) (by ((repeat' first | exact rfl | exact trivial | refine And.intro ?_ ?_) <;> (repeat' first | exact rfl | exact trivial | refine And.intro ?_ ?_))) (by rfl)) ?_
      rintro b ⟨hab, hb, hno2⟩
      refine Pick.by (fun hc2 => ?_) (fun hc2 => ?_)
      · have hblt : b < r.length := by rw [nats_length] at hc2; simpa using hc2
        have hx := getD_lt hB.2 (show 0 < 256 by omega) a
        have next : (bitL r a b = true → hasL (mergedL r a b) k = false) → ∀ b', a < b' → b' < b + 1 → bitL r a b' = true → hasL (mergedL r a b') k = false := fun h b' h1 h2 => by
          by_cases e : b' = b
          · rw [e]; exact h
          · exact hno2 b' h1 (by omega)
        refine Idx.by a rfl (by rw [nats_length]; exact hlt) ?_
        refine Look.by _ (nats_get hlt) ?_
        refine Pick.T (inK_u64 (by omega) (by omega)) ?_
        refine Pick.T (by simp; omega) ?_
        have hbit := bitI (r.getD a 0) b hx
        refine Pick.by (fun h3 => ?_) (fun h3 => ?_)
        · have h3 : bitL r a b = true := hbit.symm.trans h3
          refine Call.by _ _ (Merged8C_at ⟨hB, hlt, hblt⟩) ?_
          refine Call.by _ _ (Comes8C_at ⟨hB.merged hlt hblt, by rw [mergedL_length hblt]; omega, hk⟩) ?_
          refine Pick.by (fun h4 => ?_) (fun h4 => ?_)
          · exact ⟨rfl, yes1 a b hab hblt h3 h4⟩
          · have h4 : hasL (mergedL r a b) k = false := h4
            refine Pick.T (inI64_of (by omega) (by omega)) ?_
            refine Next.by (b + 1) ⟨by omega, by omega, next fun _ => h4⟩ (by omega) (by refine Weak.by [(0, some _)] (by ((repeat' first | exact rfl | exact trivial | refine And.intro ?_ ?_) <;> (repeat' first | exact rfl | exact trivial | refine And.intro ?_ ?_))) (by ((repeat' first | exact rfl | exact trivial | refine And.intro ?_ ?_) <;> (repeat' first | exact rfl | exact trivial | refine And.intro ?_ ?_))) (by rfl))
        · have h3 : bitL r a b = false := hbit.symm.trans h3
          refine Pick.T (inI64_of (by omega) (by omega)) ?_
          refine Next.by (b + 1) ⟨by omega, by omega, next fun h => by rw [h3] at h; cases h⟩ (by omega) (by refine Weak.by [(0, some _)] (by ((repeat' first | exact rfl | exact trivial | refine And.intro ?_ ?_) <;> (repeat' first | exact rfl | exact trivial | refine And.intro ?_ ?_))) (by ((repeat' first | exact rfl | exact trivial | refine And.intro ?_ ?_) <;> (repeat' first | exact rfl | exact trivial | refine And.intro ?_ ?_))) (by rfl))
      · have hbge : r.length ≤ b := by rw [nats_length] at hc2; simpa using hc2
        refine Pick.T (inI64_of (by omega) (by omega)) ?_
        refine Next.by (a + 1) ⟨by omega, fun a' b' h1 h2 h3 => ?_⟩ (by omega) (by refine Weak.by [(0, some _)] (by ((repeat' first | exact rfl | exact trivial | refine And.intro ?_ ?_) <;> (repeat' first | exact rfl | exact trivial | refine And.intro ?_ ?_))) (by ((repeat' first | exact rfl | exact trivial | refine And.intro ?_ ?_) <;> (repeat' first | exact rfl | exact trivial | refine And.intro ?_ ?_))) (by rfl))
        by_cases e : a' = a
        · subst e; exact hno2 b' h2 (by omega)
        · exact hno a' b' (by omega) h2 h3
    · have hge : r.length ≤ a := by rw [nats_length] at hc; simpa using hc
      refine LoopP.intro (α := Nat) (fun v => v ≤ r.length ∧ ∀ v', v' < v → hasL (lessL r v') k = false) (fun v => r.length - v) (fun v => [(0, .sl 0 none none), (1, .s (.i .i64 k)), (5, .s (.i .i64 (nats r).length)), (8, .s (.i .i64 v))])
        (fun v => [(0, some (.flat false 1 (nats r)))]) 1 0 ⟨by omega, by intros; omega⟩ (by refine Weak.by [(0, some _)] (by ((repeat' first | exact rfl | exact trivial | refine And.intro ?_ ?_) <;> (repeat' first | exact rfl | exact trivial | refine And.intro ?_ ?_))) (by ((repeat' first | exact rfl | exact trivial | refine And.intro ?_ ?_) <;> (repeat' first | exact rfl | exact trivial | refine And.intro ?_ ?_))) (by rfl)) ?_
      rintro v ⟨hv, hno2⟩
      refine Pick.by (fun hc2 => ?_) (fun hc2 => ?_)
      · have hvlt : v < r.length := by rw [nats_length] at hc2; simpa using hc2
        refine Call.by _ _ (Less8C_at ⟨hB, hvlt⟩) ?_
        refine Call.by _ _ (Comes8C_at ⟨hB.less hvlt, by rw [lessL_length hvlt]; omega, hk⟩) ?_
        refine Pick.by (fun h4 => ?_) (fun h4 => ?_)
        · exact ⟨rfl, yes2 v hvlt h4⟩
        · have h4 : hasL (lessL r v) k = false := h4
          refine Pick.T (inI64_of (by omega) (by omega)) ?_
          refine Next.by (v + 1) ⟨by omega, fun v' h1 => ?_⟩ (by omega) (by refine Weak.by [(0, some _)] (by ((repeat' first | exact rfl | exact trivial | refine And.intro ?_ ?_) <;> (repeat' first | exact rfl | exact trivial | refine And.intro ?_ ?_))) (by ((repeat' first | exact rfl | exact trivial | refine And.intro ?_ ?_) <;> (repeat' first | exact rfl | exact trivial | refine And.intro ?_ ?_))) (by rfl))
          by_cases e : v' = v
          · rw [e]; exact h4
          · exact hno2 v' (by omega)
      · have hvge : r.length ≤ v := by rw [nats_length] at hc2; simpa using hc2
        refine ⟨rfl, ?_⟩
        show Sc.b false = Sc.b (hasL r k)
        congr 1
        rw [hst]
        symm
        rw [Bool.or_eq_false_iff, List.any_eq_false, List.any_eq_false]
        refine ⟨fun a' ha' => ?_, fun v' hv' => ?_⟩
        · rw [Bool.not_eq_true, List.any_eq_false]
          intro b' hb'
          by_cases h1 : a' < b'
          · cases h2 : bitL r a' b' with
            | false => simp
            | true => rw [hno a' b' (by have := List.mem_range.1 ha'; omega) h1 (List.mem_range.1 hb') h2]; simp
          · simp [h1]
        · rw [hno2 v' (by have := List.mem_range.1 hv'; omega)]; simp
end Go.Sh

set_option linter.unusedVariables false
set_option linter.unusedSimpArgs false
namespace Go.Sh
open Go.Proofs
/-! ### carcanetref08.Has -/
noncomputable def hasB (n : Int) (E : List Ed) (k : Int) : Bool := decide (RightP n E) && (decide (n ≤ 8) && (decide ((patG k).1 ≠ 0) && hasL (rowsL n E) k))
noncomputable def Has8C : Con := conP 3 (fun _ : (Int × List Ed) × Int => True) (fun a => [grV a.1.1 a.1.2, .one (.s (.i .i64 a.2))]) (fun a => .one (.s (.b (hasB a.1.1 a.1.2 a.2))))
theorem Has8C_at (n : Int) (E : List Ed) (k : Int) : Has8C.F [grV n E, .one (.s (.i .i64 k))] = some (.one (.s (.b (hasB n E k))), []) :=
  conP_at (a := ((n, E), k)) (fun a b _ _ h => by
    obtain ⟨⟨n, E⟩, v⟩ := a
    obtain ⟨⟨n', E'⟩, v'⟩ := b
    simp at h
    obtain ⟨h1, h2⟩ := h
    obtain ⟨rfl, rfl⟩ := grV_inj h1
    subst h2
    rfl) trivial
theorem pat_kind {k : Int} (h : (patG k).1 ≠ 0) : k = 1 ∨ k = 2 := by
  rcases patG_cases k with ⟨h1, _⟩ | ⟨h1, _⟩ | ⟨_, _, e⟩
  · exact .inl h1
  · exact .inr h1
  · exact absurd (by rw [e]) h
theorem Has8_ok : SoundC Try.prog T 23 Has8C := by
  refine sound_con (X := { Γ := [(39, RightC), (49, SizeC), (55, Rows8C), (54, Comes8C 8)], T := T, nt := 22 }) cr_none hmix hT (sound_cons Right3_ok (sound_cons Size_ok (sound_cons Rows8_ok (sound_cons (Comes8_ok 8) sound_nil)))) Try.func23 (by rfl) (by rfl) (by rfl) (by rfl) 3 ?_
  rintro ⟨⟨n, E⟩, k⟩ -
  refine ⟨⟨Nat.le_of_ble_eq_true rfl, Nat.le_of_ble_eq_true rfl⟩, ?_⟩
  refine Call.by _ _ (RightC_at n E) ?_
  refine Pick.by (fun h1 => ?_) (fun h1 => ?_)
  · have h1 : ¬ RightP n E := by have h1 : (!decide (RightP n E)) = true := h1; simpa using h1
    refine ⟨rfl, ?_⟩
    show Sc.b false = Sc.b (hasB n E k)
    unfold hasB
    rw [decide_eq_false h1]; rfl
  have h1 : RightP n E := by have h1 : (!decide (RightP n E)) = false := h1; simpa using h1
  refine Pick.by (fun h2 => ?_) (fun h2 => ?_)
  · have h2 : ¬ n ≤ 8 := by simp at h2; omega
    refine ⟨rfl, ?_⟩
    show Sc.b false = Sc.b (hasB n E k)
    unfold hasB
    rw [decide_eq_false h2, Bool.false_and, Bool.and_false]
  have h2 : n ≤ 8 := by simp at h2; omega
  refine Call.by _ _ (SizeC_at k) ?_
  refine Pick.by (fun h3 => ?_) (fun h3 => ?_)
  · have h3 : (patG k).1 = 0 := by simpa using h3
    refine ⟨rfl, ?_⟩
    show Sc.b false = Sc.b (hasB n E k)
    unfold hasB
    rw [decide_eq_false (not_not_intro h3), Bool.false_and, Bool.and_false, Bool.and_false]
  have h3 : (patG k).1 ≠ 0 := by simpa using h3
  refine Call.by _ _ (Rows8C_at ⟨h1, h2⟩) ?_
  have hB := rows_byt h1 h2
  refine Call.by _ _ (Comes8C_at ⟨hB, hB.1, pat_kind h3⟩) ?_
  refine ⟨rfl, ?_⟩
  show Sc.b (hasL (rowsL n E) k) = Sc.b (hasB n E k)
  unfold hasB
  rw [decide_eq_true h1, decide_eq_true h2, decide_eq_true h3]; rfl
/-! ### carcanetlaw08.MinorTrue -/
/-! ### carcanetref08.Pattern -/
end Go.Sh

set_option linter.unusedVariables false
set_option linter.unusedSimpArgs false
namespace Go.Sh
open Go.Proofs
/-! ### carcanetlaw10.ReduceMinor -/
theorem narrow_has {n : Int} {E : List Ed} (hR : RightP n E) (h8 : n ≤ 8) : narrowB n E = !hasB n E 1 := by
  have h1 : hasB n E 1 = hasL (rowsL n E) 1 := by
    unfold hasB
    rw [decide_eq_true hR, decide_eq_true h8, decide_eq_true (show (patG 1).1 ≠ 0 by decide)]; rfl
  rw [h1, Bool.eq_iff_iff, narrow_K4 hR, ← has_K4 hR]
  cases hasL (rowsL n E) 1 <;> simp
noncomputable def RMinorF := conF (fun _ : Int × List Ed => True) (fun a => [grV a.1 a.2]) (fun _ => .one (.s (.b true)))
theorem RMinor_ok : SoundP Try.prog 11 RMinorF := by
  refine con_pure (X := { Γ := [(29, Shown10C), (16, OfC), (34, NarrowC), (23, Has8C)], T := T, nt := 17 }) cr_none hmix hT
    (sound_cons Shown10_ok (sound_cons Of_ok (sound_cons Narrow_ok (sound_cons Has8_ok sound_nil)))) Try.func11 (by rfl) (by rfl) (by rfl) 2 ?_
  rintro ⟨n, E⟩ -
  refine ⟨⟨Nat.le_of_ble_eq_true rfl, Nat.le_of_ble_eq_true rfl⟩, ?_⟩
  refine Call.by _ _ Shown10C_at ?_
  refine Call.by _ _ (OfC_at n E (most := 7) (by omega)) ?_
  have hR := any_right (n := n) (l := E) (most := 7) (by omega) (by omega)
  have hr := anyN_range (n := n) (most := 7) (by omega)
  obtain ⟨m, hm⟩ : ∃ m, anyN n 7 = m := ⟨_, rfl⟩
  obtain ⟨F, hF⟩ : ∃ F, anyE n E 7 = F := ⟨_, rfl⟩
  rw [hm] at hr
  rw [hm, hF] at hR ⊢
  refine Call.by _ _ (NarrowC_at m F) ?_
  refine Call.by _ _ (Has8C_at m F 1) ?_
  refine Seg.by (by kernel_rfl) ?_
  refine ⟨rfl, ?_⟩
  show Sc.b (narrowB m F == !hasB m F 1) = Sc.b true
  rw [narrow_has hR (by omega)]; simp
end Go.Sh

set_option linter.unusedVariables false
set_option linter.unusedSimpArgs false
namespace Go.Sh
open Go.Proofs
/-! ### carcanetlaw08.MinorMoves -/
def i64 (x : Int) : Prop := -9223372036854775808 ≤ x ∧ x ≤ 9223372036854775807
def clI (x : Int) : Int := mnI x 4611686018427387904
def clP (j : Nat) (row : List Int) : List Int := (row.take j).map clI ++ row.drop j
theorem clP_all (row : List Int) (j : Nat) (h : row.length ≤ j) : clP j row = row.map clI := by
  unfold clP
  rw [List.take_of_length_le h, List.drop_eq_nil_of_le h, List.append_nil]
theorem clP_zero (row : List Int) : clP 0 row = row := by simp [clP]
def ClI (S : List (List Int)) (i j : Nat) (R : List (List Int)) : Prop := R.length = S.length ∧ ∀ r row, S[r]? = some row → R[r]? = some (if r < i then row.map clI else if r = i then clP j row else row)
theorem ClI.at {S R : List (List Int)} {i j : Nat} (h : ClI S i j R) {row : List Int} (hi : S[i]? = some row) : R[i]? = some (clP j row) := by
  have := h.2 i row hi
  rwa [if_neg (by omega), if_pos rfl] at this
theorem ClI.step {S R : List (List Int)} {i j : Nat} (h : ClI S i j R) {row : List Int} (hi : S[i]? = some row) : ClI S i (j + 1) (R.set i (clP (j + 1) row)) := by
  refine ⟨by rw [List.length_set]; exact h.1, fun r w hr => ?_⟩
  rw [List.getElem?_set]
  by_cases e : i = r
  · subst e
    rw [hi] at hr
    injection hr with hr
    subst hr
    rw [if_pos rfl, if_pos (by rw [h.1]; exact (List.getElem?_eq_some_iff.1 hi).1), if_neg (by omega), if_pos rfl]
  · rw [if_neg e, h.2 r w hr, if_neg (show ¬ r = i by omega), if_neg (show ¬ r = i by omega)]
theorem ClI.next {S R : List (List Int)} {i j : Nat} (h : ClI S i j R) {row : List Int} (hi : S[i]? = some row) (hj : row.length ≤ j) : ClI S (i + 1) 0 R := by
  refine ⟨h.1, fun r w hr => ?_⟩
  rw [h.2 r w hr]
  by_cases e : r < i
  · rw [if_pos e, if_pos (by omega)]
  · by_cases e2 : r = i
    · subst e2
      rw [hi] at hr
      injection hr with hr
      subst hr
      rw [if_neg e, if_pos rfl, if_pos (by omega), clP_all _ _ hj]
    · rw [if_neg e, if_neg e2, if_neg (by omega)]
      split
      · rw [clP_zero]
      · rfl
theorem ClI.done {S R : List (List Int)} {i : Nat} (h : ClI S i 0 R) (hi : S.length ≤ i) : R = S.map fun l => l.map clI := by
  apply List.ext_getElem?
  intro r
  by_cases hr : r < S.length
  · rw [h.2 r _ (List.getElem?_eq_getElem hr), if_pos (by omega)]
    simp [hr]
  · rw [List.getElem?_eq_none (by rw [h.1]; omega), List.getElem?_eq_none (by simp; omega)]
theorem ClI.zero (S : List (List Int)) : ClI S 0 0 S := ⟨rfl, fun r row h => by
  rw [if_neg (by omega), clP_zero]
  split <;> exact h⟩
end Go.Sh

set_option linter.unusedVariables false
set_option linter.unusedSimpArgs false
namespace Go.Sh
open Go.Proofs
/-! ### what is handed in, as data -/
theorem VTy.struct {T : Tab} {t : Nat} {ti : TI} {fs : List (Nat × Nat)} {v : V} (ht : lk T t = some ti) (hk : ti.kind = .struct fs) (h : VTy T t v) : ∃ cs, v = .agg cs ∧ All2 (fun (f : Nat × Nat) c => CTy T f.2 c) fs cs := by
  unfold VTy at h
  rw [ht] at h
  simp only at h
  rw [hk] at h
  exact h
theorem VTy.cell {T : Tab} {t : Nat} {ti : TI} {v : V} (ht : lk T t = some ti) (hk : ∀ fs, ti.kind ≠ .struct fs) (h : VTy T t v) : ∃ c, v = .one c ∧ CTy T t c := by
  unfold VTy at h
  rw [ht] at h
  simp only at h
  exact h
theorem ScTy.int {T : Tab} {t : Nat} {ti : TI} {k : IntKind} {x : Sc} (ht : lk T t = some ti) (hk : ti.kind = .int k) (h : ScTy T t x) : ∃ n, x = .i k n ∧ (Lit.int k n).wf = true := by
  unfold ScTy at h
  rw [ht] at h
  simp only at h
  rw [hk] at h
  cases x with
  | i k' n => obtain ⟨rfl, h⟩ := h; exact ⟨n, rfl, h⟩
  | b _ => exact h.elim
theorem CTy.sc {T : Tab} {t : Nat} {c : C} (hs : sliceE T t = none) (h : CTy T t c) : ∃ x, c = .s x ∧ ScTy T t x := by
  unfold CTy at h
  rw [hs] at h
  exact h
theorem CTy.flat {T : Tab} {t e : Nat} {c : C} (hs : sliceE T t = some e) (hs2 : sliceE T e = none) (h : CTy T t c) : ∃ rows, c = .flat false (sizeT T e) rows ∧ FlatTy T e rows := by
  unfold CTy at h
  rw [hs] at h
  simp only at h
  rw [hs2] at h
  exact h
theorem CTy.nest {T : Tab} {t e e2 : Nat} {c : C} (hs : sliceE T t = some e) (hs2 : sliceE T e = some e2) (h : CTy T t c) : ∃ rows, c = .nest false (sizeT T e2) rows ∧ rows.length ≤ maxLen ∧ ∀ fl ∈ rows, FlatTy T e2 fl := by
  unfold CTy at h
  rw [hs] at h
  simp only at h
  rw [hs2] at h
  exact h
theorem i64_wf {n : Int} (h : (Lit.int .i64 n).wf = true) : i64 n := by
  simp [Lit.wf, IntKind.min, IntKind.max, IntKind.signed, IntKind.bits] at h
  exact h
theorem list_ex {α β : Type} {P : α → β → Prop} : ∀ {l : List α}, (∀ x ∈ l, ∃ y, P x y) → ∃ m : List β, All2 P l m := by
  intro l
  induction l with
  | nil => intro _; exact ⟨[], All2.nil⟩
  | cons x l ih =>
    intro h
    obtain ⟨y, hy⟩ := h x (by simp)
    obtain ⟨m, hm⟩ := ih fun x hx => h x (by simp [hx])
    exact ⟨y :: m, All2.cons' hy hm⟩
theorem All2.map_eq {α β : Type} {f : β → α} {l : List α} {m : List β} (h : All2 (fun x y => x = f y) l m) : l = m.map f := by
  apply List.ext_getElem?
  intro i
  rw [List.getElem?_map]
  by_cases hi : i < l.length
  · have him : i < m.length := by rw [← h.1]; exact hi
    rw [List.getElem?_eq_getElem hi, List.getElem?_eq_getElem him, Option.map_some, h.2 i _ _ (List.getElem?_eq_getElem hi) (List.getElem?_eq_getElem him)]
  · rw [List.getElem?_eq_none (by omega), List.getElem?_eq_none (by rw [← h.1]; omega)]; rfl
theorem All2.mem {α β : Type} {R : α → β → Prop} {l : List α} {m : List β} (h : All2 R l m) {y : β} (hy : y ∈ m) : ∃ x ∈ l, R x y := by
  obtain ⟨i, hi⟩ := List.mem_iff_getElem?.1 hy
  have hl := (List.getElem?_eq_some_iff.1 hi).1
  rw [← h.1] at hl
  exact ⟨_, List.getElem_mem hl, h.2 i _ y (List.getElem?_eq_getElem hl) hi⟩
/-! #### at this program's types -/
theorem All2.two {α β : Type} {R : α → β → Prop} {a b : α} {m : List β} (h : All2 R [a, b] m) : ∃ x y, m = [x, y] ∧ R a x ∧ R b y := by
  obtain ⟨h1, h2⟩ := h
  match m, h1, h2 with
  | [x, y], _, h2 => exact ⟨x, y, rfl, h2 0 a x rfl rfl, h2 1 b y rfl rfl⟩
theorem All2.one {α β : Type} {R : α → β → Prop} {a : α} {m : List β} (h : All2 R [a] m) : ∃ x, m = [x] ∧ R a x := by
  obtain ⟨h1, h2⟩ := h
  match m, h1, h2 with
  | [x], _, h2 => exact ⟨x, rfl, h2 0 a x rfl rfl⟩
theorem All2.three {α β : Type} {R : α → β → Prop} {a b c : α} {m : List β} (h : All2 R [a, b, c] m) : ∃ x y z, m = [x, y, z] ∧ R a x ∧ R b y ∧ R c z := by
  obtain ⟨h1, h2⟩ := h
  match m, h1, h2 with
  | [x, y, z], _, h2 => exact ⟨x, y, z, rfl, h2 0 a x rfl rfl, h2 1 b y rfl rfl, h2 2 c z rfl rfl⟩
theorem row_edge {row : Row} (h : RowTy T 77 row) : ∃ p : Ed, row = [.i .i64 p.1, .i .i64 p.2] ∧ i64 p.1 ∧ i64 p.2 := by
  obtain ⟨_, h⟩ := h
  obtain ⟨x, y, rfl, hx, hy⟩ := All2.two h
  obtain ⟨n, rfl, hn⟩ := ScTy.int (t := 3) rfl rfl hx
  obtain ⟨m, rfl, hm⟩ := ScTy.int (t := 3) rfl rfl hy
  exact ⟨(n, m), rfl, i64_wf hn, i64_wf hm⟩
theorem edges_of {fl : Flat} (h : FlatTy T 77 fl) : ∃ E : List Ed, fl = edges E ∧ E.length ≤ maxLen ∧ ∀ p ∈ E, i64 p.1 ∧ i64 p.2 := by
  obtain ⟨m, hm⟩ := list_ex (P := fun row (p : Ed) => row = [Sc.i .i64 p.1, Sc.i .i64 p.2] ∧ i64 p.1 ∧ i64 p.2) fun row hr => row_edge (h.2 row hr)
  refine ⟨m, All2.map_eq (f := fun p : Ed => [Sc.i .i64 p.1, Sc.i .i64 p.2]) (hm.imp fun _ _ _ k => k.1), by rw [← hm.1]; exact h.1, fun x hx => ?_⟩
  obtain ⟨_, _, k⟩ := hm.mem hx
  exact k.2
theorem net_of {v : V} (h : VTy T 24 v) : ∃ n E, v = grV n E ∧ i64 n ∧ ∀ p ∈ E, i64 p.1 ∧ i64 p.2 := by
  obtain ⟨cs, rfl, hcs⟩ := VTy.struct (t := 24) rfl rfl h
  obtain ⟨x, y, rfl, hx, hy⟩ := All2.two hcs
  obtain ⟨z, rfl, hz⟩ := CTy.sc (t := 3) rfl hx
  obtain ⟨n, rfl, hw⟩ := ScTy.int (t := 3) rfl rfl hz
  obtain ⟨rows, rfl, hr⟩ := CTy.flat (t := 22) (e := 77) rfl rfl hy
  obtain ⟨E, rfl, _, hE⟩ := edges_of hr
  exact ⟨n, E, rfl, i64_wf hw, hE⟩
end Go.Sh

set_option linter.unusedVariables false
namespace Go.Sh
open Go.Proofs
theorem own : ownKnob Try.prog.godebug = none := by kernel_rfl
theorem laidOut : laidOutB Try.prog = true := by kernel_rfl
set_option maxRecDepth 100000 in
/-- A law whose function answers true, whatever comes. -/
theorem law_row {s : ChangeSpec} {f : FuncId} {fn : Func} {conds : List PathCond} {apart fresh handsOn : Bool} {ts : List TypeId} {F : List V → Option (V × List V)} (hf : Try.prog.funcs[f]? = some fn) (hin : Try.prog.inits.idxOf? f = none) (hv : s.vars = [])
    (hts : fn.params.toList = ts) (ha : ts.all (argB T) = true) (hr : ts.all (fun t => Try.prog.readableRec t && Nat.blt t Try.prog.types.size) = true) (hres : fn.resultTypes = #[4])
    (hsp : ∀ (H : Type) (ds : List (DataW H)), ds.length = ts.length → (s.fn H ds).results = [.lit (.bool true)] ∧ (s.fn H ds).args = ds ∧ (s.fn H ds).vars = [])
    (hS : SoundP Try.prog f F) (hF : LawV T ts F) (os : Os) (started : os.Started) (H : Type) (enc : TypeId × Value → H) (a : Assume)
    (hw : ∃ (w : World) (tape : Tape) (i : Input), w.os = os ∧ (w.forCall tape i).Shaped Try.checked.prog ∧ i.vars = [] ∧ Input.okWide Try.checked.prog (w.forCall tape i) .any w.heap.size f i ∧
      s.pre6 enc Try.checked.prog fn conds apart (w.forCall tape i).memory i.args ∧ a.holds Try.checked.prog (lone (Frame.enter Try.checked.prog f i.args .normal) [] (w.forCall tape i))) :
    ReturnsInHanded a Try.checked os f .any (s.pre6 enc Try.checked.prog fn conds apart) (s.post enc Try.checked.prog fn apart fresh handsOn false) := by
  refine returnsInHanded_of_change (C := Try.checked) own started hin hf hw ?_
  intro W base args ds gs before hval hW _ _
  refine law_contract (P := Try.prog) (conds := conds) hT laidOut hv hts ha (fun t ht => ?_) hres Try.underlying4 (hsp H) hS hF hval hW
  have := List.all_eq_true.1 hr t ht
  simp only [Bool.and_eq_true] at this
  exact ⟨this.1, Nat.le_of_ble_eq_true this.2⟩
end Go.Sh

set_option linter.unusedVariables false
namespace Go.Sh
open Go.Proofs
/-! ### more of what is handed in, as data -/
theorem ScTy.bool {T : Tab} {t : Nat} {ti : TI} {x : Sc} (ht : lk T t = some ti) (hk : ti.kind = .bool) (h : ScTy T t x) : ∃ b, x = .b b := by
  unfold ScTy at h
  rw [ht] at h
  simp only at h
  rw [hk] at h
  cases x with
  | i k' n => exact h.elim
  | b b => exact ⟨b, rfl⟩
theorem All2.four {α β : Type} {R : α → β → Prop} {a b c d : α} {m : List β} (h : All2 R [a, b, c, d] m) : ∃ x y z t, m = [x, y, z, t] ∧ R a x ∧ R b y ∧ R c z ∧ R d t := by
  obtain ⟨h1, h2⟩ := h
  match m, h1, h2 with
  | [x, y, z, t], _, h2 => exact ⟨x, y, z, t, rfl, h2 0 a x rfl rfl, h2 1 b y rfl rfl, h2 2 c z rfl rfl, h2 3 d t rfl rfl⟩
end Go.Sh
