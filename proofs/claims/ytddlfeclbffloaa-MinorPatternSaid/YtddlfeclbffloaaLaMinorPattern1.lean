/- The statement MinorPattern of the given program is proved: whatever is handed in, the law answers true, changes nothing that was there, and comes back. No condition. -/
import Derived.Test.YtddlfeclbffloaaFn2
import Derived.Test.YtddlfeclbffloaaRows
set_option linter.unusedVariables false
set_option linter.unusedSimpArgs false
namespace Go.Sh
open Go.Proofs
/-! ### carcanetlaw08.MinorMoves -/
def i64 (x : Int) : Prop := -9223372036854775808 ≤ x ∧ x ≤ 9223372036854775807
def rows64 (S : List (List Int)) : Prop := ∀ l ∈ S, ∀ x ∈ l, i64 x
def clI (x : Int) : Int := mnI x 4611686018427387904
def clP (j : Nat) (row : List Int) : List Int := (row.take j).map clI ++ row.drop j
theorem clP_length (j : Nat) (row : List Int) : (clP j row).length = row.length := by simp [clP]; omega
theorem clP_get {j : Nat} {row : List Int} (h : j < row.length) : (clP j row)[j]? = some row[j] := by
  unfold clP
  rw [List.getElem?_append_right (by rw [List.length_map, List.length_take]; omega), List.length_map, List.length_take, show min j row.length = j by omega, Nat.sub_self, List.getElem?_drop, Nat.add_zero, List.getElem?_eq_getElem h]
theorem clP_step {j : Nat} {row : List Int} (h : j < row.length) : clP (j + 1) row = (clP j row).set j (clI row[j]) := by
  unfold clP
  rw [take_snoc _ h, drop_cons h, List.set_append_right _ _ (by rw [List.length_map, List.length_take]; omega), List.length_map, List.length_take, show min j row.length = j by omega, Nat.sub_self]
  simp only [List.set_cons_zero, List.append_assoc, List.cons_append, List.nil_append]
theorem clP_all (row : List Int) (j : Nat) (h : row.length ≤ j) : clP j row = row.map clI := by
  unfold clP
  rw [List.take_of_length_le h, List.drop_eq_nil_of_le h, List.append_nil]
theorem clP_zero (row : List Int) : clP 0 row = row := by simp [clP]
def ClI (S : List (List Int)) (i j : Nat) (R : List (List Int)) : Prop := R.length = S.length ∧ ∀ r row, S[r]? = some row → R[r]? = some (if r < i then row.map clI else if r = i then clP j row else row)
theorem ClI.at {S R : List (List Int)} {i j : Nat} (h : ClI S i j R) {row : List Int} (hi : S[i]? = some row) : R[i]? = some (clP j row) := by
  have := h.2 i row hi
  rwa [if_neg (by omega), if_pos rfl] at this
theorem ClI.step {S R : List (List Int)} {i j : Nat} (h : ClI S i j R) {row : List Int} (hi : S[i]? = some row) : ClI S i (j + 1) (R.set i (clP (j + 1) row)) := by
  refine ⟨by rw [List.length_set]; exact h.1, fun r w hr => ?_⟩
  rw [List.getElem?_set]
  by_cases e : i = r
  · subst e
    rw [hi] at hr
    injection hr with hr
    subst hr
    rw [if_pos rfl, if_pos (by rw [h.1]; exact (List.getElem?_eq_some_iff.1 hi).1), if_neg (by omega), if_pos rfl]
  · rw [if_neg e, h.2 r w hr, if_neg (show ¬ r = i by omega), if_neg (show ¬ r = i by omega)]
theorem ClI.next {S R : List (List Int)} {i j : Nat} (h : ClI S i j R) {row : List Int} (hi : S[i]? = some row) (hj : row.length ≤ j) : ClI S (i + 1) 0 R := by
  refine ⟨h.1, fun r w hr => ?_⟩
  rw [h.2 r w hr]
  by_cases e : r < i
  · rw [if_pos e, if_pos (by omega)]
  · by_cases e2 : r = i
    · subst e2
      rw [hi] at hr
      injection hr with hr
      subst hr
      rw [if_neg e, if_pos rfl, if_pos (by omega), clP_all _ _ hj]
    · rw [if_neg e, if_neg e2, if_neg (by omega)]
      split
      · rw [clP_zero]
      · rfl
theorem ClI.done {S R : List (List Int)} {i : Nat} (h : ClI S i 0 R) (hi : S.length ≤ i) : R = S.map fun l => l.map clI := by
  apply List.ext_getElem?
  intro r
  by_cases hr : r < S.length
  · rw [h.2 r _ (List.getElem?_eq_getElem hr), if_pos (by omega)]
    simp [hr]
  · rw [List.getElem?_eq_none (by rw [h.1]; omega), List.getElem?_eq_none (by simp; omega)]
theorem ClI.zero (S : List (List Int)) : ClI S 0 0 S := ⟨rfl, fun r row h => by
  rw [if_neg (by omega), clP_zero]
  split <;> exact h⟩
theorem drop_same (v : Int) (l : List Int) : dropRow v l = drop8 v l := by
  unfold dropRow drop8 aboveF
  by_cases h : v < 0
  · rw [if_pos h]
    have : (fun x : Int => if v ≥ 0 ∧ x ≥ v then x + 1 else x) = id := funext fun x => by rw [if_neg (by omega)]; rfl
    rw [this, List.map_id]
  · rw [if_neg h]
    refine List.map_congr_left fun x _ => ?_
    by_cases hx : x ≥ v
    · rw [if_pos hx, if_pos ⟨by omega, hx⟩]
    · rw [if_neg hx, if_neg (fun h => hx h.2)]
theorem lift_same (a b : Int) (l : List Int) : liftRow (mnI a b) (mxI a b) l = lift8 (mnI a b) (mxI a b) l := by
  have hm : mnI a b ≤ mxI a b := by unfold mnI mxI; split <;> split <;> omega
  unfold liftRow lift8
  have h1 : drop8 (-1) l = l := by rw [← drop_same]; rfl
  by_cases h : mnI a b < 0 ∨ mnI a b = mxI a b
  · rw [if_pos h, if_pos h, h1]
  · have h2 : drop8 (mxI a b) l = aboveF l (mxI a b) := by rw [← drop_same]; exact if_neg (by omega)
    rw [if_neg h, if_neg h, h2]
noncomputable def MovesF := conF (fun a : Mo × Int × Int => rows64 a.1.2) (fun a => [moV false a.1.1 a.1.2, .one (.s (.i .i64 a.2.1)), .one (.s (.i .i64 a.2.2))]) (fun a => .one (.s (.b true)))
set_option maxHeartbeats 2000000 in
theorem Moves_ok (hU : SoundC Try.prog T 77 UnlikeC) : SoundP Try.prog 7 MovesF := by
  refine con_pure (X := { Γ := [(15, ShownC), (17, SmallC), (25, LiftMC), (26, Lift8C), (24, same8C), (27, DropMC), (28, Drop8C)], T := T, nt := 70 }) cr_none hmix hT (sound_cons (Shown_ok hU) (sound_cons Small_ok (sound_cons LiftM_ok (sound_cons Lift8_ok (sound_cons same8_ok (sound_cons DropM_ok (sound_cons Drop8_ok sound_nil))))))) Try.func7 (by rfl) (by rfl) (by rfl) 4 ?_
  rintro ⟨⟨kd, S0⟩, a, b⟩ hS
  dsimp only at hS
  refine ⟨⟨Nat.le_of_ble_eq_true rfl, Nat.le_of_ble_eq_true rfl⟩, ?_⟩
  refine Call.by _ _ ShownC_at ?_
  refine Call.by _ _ (SmallC_at kd S0) ?_
  obtain ⟨S, hSe⟩ : ∃ S, S = cutSets S0 := ⟨_, rfl⟩
  rw [← hSe]
  have hSl : S.length ≤ 6 := by rw [hSe]; simp [cutSets]; omega
  have hSr : ∀ l ∈ S, l.length ≤ 20 ∧ ∀ x ∈ l, i64 x := by
    intro l hl
    rw [hSe] at hl
    obtain ⟨m, hm, rfl⟩ := List.mem_map.1 hl
    exact ⟨by simp; omega, fun x hx => hS m (List.mem_of_mem_take hm) x (List.mem_of_mem_take hx)⟩
  refine LoopP.intro (α := List (List Int) × Nat) (fun p => p.2 ≤ S.length ∧ ClI S p.2 0 p.1) (fun p => S.length - p.2) (fun p => [(1, .s (.i .i64 a)), (2, .s (.i .i64 b)), (7, .s (.b true)), (8, .ptr 0 0), (9, .s (.i .i64 p.2))])
    (fun p => [(0, some (.blk [.s (.i .i64 kd), .sl 1 none none])), (1, some (.nest true 1 (rowsI p.1) [] []))]) 2 (S, 0) ⟨by simp, ClI.zero S⟩ (by refine Weak.by [(0, some _), (1, some _)] (by (repeat' first | exact rfl | exact trivial | refine And.intro ?_ ?_)) (by (repeat' first | exact rfl | exact trivial | refine And.intro ?_ ?_)) (by rfl)) ?_
  rintro ⟨R, i⟩ ⟨hi, hR⟩
  dsimp only at hi hR
  refine Pick.by (fun hc => ?_) (fun hc => ?_)
  · have hlt : i < S.length := by rw [rowsI_length] at hc; have : R.length = S.length := hR.1; simp at hc; omega
    have hSi : S[i]? = some S[i] := List.getElem?_eq_getElem hlt
    obtain ⟨hr1, hr2⟩ := hSr _ (List.getElem_mem hlt)
    refine LoopP.intro (α := List (List Int) × Nat) (fun p => p.2 ≤ S[i].length ∧ ClI S i p.2 p.1) (fun p => S[i].length - p.2) (fun p => [(1, .s (.i .i64 a)), (2, .s (.i .i64 b)), (7, .s (.b true)), (8, .ptr 0 0), (9, .s (.i .i64 i)), (10, .s (.i .i64 p.2))])
      (fun p => [(0, some (.blk [.s (.i .i64 kd), .sl 1 none none])), (1, some (.nest true 1 (rowsI p.1) [] []))]) 2 (R, 0) ⟨by simp, hR⟩ (by refine Weak.by [(0, some _), (1, some _)] (by (repeat' first | exact rfl | exact trivial | refine And.intro ?_ ?_)) (by (repeat' first | exact rfl | exact trivial | refine And.intro ?_ ?_)) (by rfl)) ?_
    rintro ⟨Q, j⟩ ⟨hj, hQ⟩
    dsimp only at hj hQ
    have hQl : i < (rowsI Q).length := by rw [rowsI_length, hQ.1]; exact hlt
    have hQi := rowsI_get (hQ.at hSi)
    refine Idx.by i rfl hQl ?_
    refine Pick.T (by simpa using hQl) ?_
    refine Look.by _ hQi ?_
    refine Pick.by (fun hd => ?_) (fun hd => ?_)
    · have hjl : j < S[i].length := by rw [ints_length, clP_length] at hd; simpa using hd
      have hx := hr2 _ (List.getElem_mem hjl)
      refine Idx.by i rfl hQl ?_
      refine Pick.T (by simpa using hQl) ?_
      refine Idx.by i rfl hQl ?_
      refine Pick.T (by simpa using hQl) ?_
      refine Look.by _ hQi ?_
      refine Idx.by j rfl (by rw [ints_length, clP_length]; exact hjl) ?_
      refine Look.by _ hQi ?_
      refine Look.by _ (ints_get (clP_get hjl)) ?_
      refine Look.by _ hQi ?_
      refine Idx.by j rfl (by rw [ints_length, clP_length]; exact hjl) ?_
      refine Look.by _ hQi ?_
      refine Look.by _ (ints_get (clP_get hjl)) ?_
      refine Seg.by (by kernel_rfl) ?_
      refine Pick.T (inI64_of (by omega) (by omega)) ?_
      refine Next.by (Q.set i (clP (j + 1) S[i]), j + 1) ⟨by omega, hQ.step hSi⟩ (by show S[i].length - (j + 1) < S[i].length - j; omega) (by refine Weak.by [(0, some _), (1, some _)] (by (repeat' first | exact rfl | exact trivial | refine And.intro ?_ ?_); all_goals (rw [clP_step hjl]; unfold rowsI; rw [List.map_set, ints_set]; rfl)) (by (repeat' first | exact rfl | exact trivial | refine And.intro ?_ ?_); all_goals (rw [clP_step hjl]; unfold rowsI; rw [List.map_set, ints_set]; rfl)) (by rfl))
    · have hge : S[i].length ≤ j := by rw [ints_length, clP_length] at hd; simpa using hd
      refine Pick.T (inI64_of (by omega) (by omega)) ?_
      refine Next.by (Q, i + 1) ⟨by omega, hQ.next hSi hge⟩ (by show S.length - (i + 1) < S.length - i; omega) (by refine Weak.by [(0, some _), (1, some _)] (by (repeat' first | exact rfl | exact trivial | refine And.intro ?_ ?_)) (by (repeat' first | exact rfl | exact trivial | refine And.intro ?_ ?_)) (by rfl))
  have hge : S.length ≤ i := by rw [rowsI_length] at hc; have : R.length = S.length := hR.1; simp at hc; omega
  have hRe := hR.done hge
  have hRl : R.length ≤ 6 := by rw [hR.1]; exact hSl
  have hRr : ∀ l ∈ R, l.length ≤ 20 ∧ ∀ x ∈ l, -9223372036854775808 ≤ x ∧ x ≤ 4611686018427387904 := by
    intro l hl
    rw [hRe] at hl
    obtain ⟨m, hm, rfl⟩ := List.mem_map.1 hl
    refine ⟨by rw [List.length_map]; exact (hSr m hm).1, fun x hx => ?_⟩
    obtain ⟨y, hy, rfl⟩ := List.mem_map.1 hx
    have := (hSr m hm).2 y hy
    unfold i64 at this
    unfold clI mnI
    split <;> omega
  have hmR : milds R := ⟨by omega, fun x hx => ⟨by have := (hRr x hx).1; omega, (hRr x hx).2⟩⟩
  have hsm1 : small (R.map (lift8 (mnI a b) (mxI a b))) := by
    refine ⟨by rw [List.length_map]; omega, fun x hx => ?_⟩
    obtain ⟨y, hy, rfl⟩ := List.mem_map.1 hx
    have := (hRr y hy).1
    unfold lift8 drop8
    split
    · simp; omega
    · split <;> simp <;> omega
  have hsm2 : small (R.map (drop8 a)) := by
    refine ⟨by rw [List.length_map]; omega, fun x hx => ?_⟩
    obtain ⟨y, hy, rfl⟩ := List.mem_map.1 hx
    have := (hRr y hy).1
    unfold drop8
    simp; omega
  have hL : R.map (liftRow (mnI a b) (mxI a b)) = R.map (lift8 (mnI a b) (mxI a b)) := List.map_congr_left fun l _ => lift_same a b l
  have hD : R.map (dropRow a) = R.map (drop8 a) := List.map_congr_left fun l _ => drop_same a l
  have c1 := LiftMC_at (k := kd) a b hmR
  rw [hL] at c1
  have c2 := DropMC_at (k := kd) a hmR
  rw [hD] at c2
  refine Call.by _ _ c1 ?_
  refine Call.by _ _ (Lift8C_at a b hmR) ?_
  refine Call.by _ _ (same8C_at hsm1 hsm1) ?_
  rw [decide_eq_true rfl]
  refine Call.by _ _ c2 ?_
  refine Call.by _ _ (Drop8C_at a hmR) ?_
  refine Call.by _ _ (same8C_at hsm2 hsm2) ?_
  rw [decide_eq_true rfl]
  refine Seg.by (by kernel_rfl) ?_
  exact ⟨rfl, rfl⟩
end Go.Sh

set_option linter.unusedVariables false
set_option linter.unusedSimpArgs false
namespace Go.Sh
open Go.Proofs
/-! ### carcanetref08.Rows -/
noncomputable def Rows8C : Con := conP 2 (fun a : Int × List Ed => RightP a.1 a.2 ∧ a.1 ≤ 8) (fun a => [grV a.1 a.2]) (fun a => .one (.flat true 1 (nats (rowsL a.1 a.2))))
theorem Rows8C_at {n : Int} {E : List Ed} (h : RightP n E ∧ n ≤ 8) : Rows8C.F [grV n E] = some (.one (.flat true 1 (nats (rowsL n E))), []) :=
  conP_at (a := (n, E)) (fun x y _ _ h => by
    obtain ⟨n, E⟩ := x
    obtain ⟨n', E'⟩ := y
    simp at h
    obtain ⟨rfl, rfl⟩ := grV_inj h
    rfl) h
theorem rows_byt {n : Int} {E : List Ed} (hR : RightP n E) (h8 : n ≤ 8) : Byt (rowsL n E) := by
  have hE : ∀ x ∈ E, okE n x := fun x hx => hR.2.2.2.1 x hx
  have hl := rowsL_length hE
  have hs := rowsL_sq hE
  refine ⟨by omega, fun x hx => ?_⟩
  obtain ⟨i, hi, rfl⟩ := List.mem_iff_getElem.1 hx
  apply Nat.lt_pow_two_of_testBit (n := 8)
  intro j hj
  cases hc : (rowsL n E)[i].testBit j with
  | false => rfl
  | true =>
    have : bitL (rowsL n E) i j = true := by
      unfold bitL
      rw [List.getD_eq_getElem?_getD, List.getElem?_eq_getElem hi]; exact hc
    have := hs.bnd _ _ this
    omega
theorem rows_take_byt {n : Int} {E : List Ed} (hR : RightP n E) (h8 : n ≤ 8) (k : Nat) : Byt ((E.take k).foldl rowStep (List.replicate n.toNat 0)) := rows_byt (right_take hR k) h8
set_option maxHeartbeats 1000000 in
theorem Rows8_ok : SoundC Try.prog T 55 Rows8C := by
  refine sound_con (X := { Γ := [], T := T, nt := 52 }) cr_none hmix hT sound_nil Try.func55 (by rfl) (by rfl) (by rfl) (by rfl) 2 ?_
  rintro ⟨n, E⟩ ⟨hR, h8⟩
  dsimp only at hR h8 ⊢
  have hn0 := hR.1
  have hE4 := hR.2.2.1
  refine ⟨⟨Nat.le_of_ble_eq_true rfl, Nat.le_of_ble_eq_true rfl⟩, ?_⟩
  refine Pick.T (by simp) ?_
  refine Idx.by n.toNat (by omega) (by omega) ?_
  refine LoopP.intro (α := Nat) (fun k => k ≤ E.length) (fun k => E.length - k) (fun k => [(1, .ptr 0 0), (3, .sl 2 none none), (4, .s (.i .i64 k))])
    (fun k => [(0, some (.blk [.s (.i .i64 n), .sl 1 none none])), (1, some (.flat false 2 (edges E))), (2, some (.flat true 1 (nats ((E.take k).foldl rowStep (List.replicate n.toNat 0)))))]) 3 0 (by omega) (by refine Weak.by [(0, some _), (1, some _), (2, some _)] (by (repeat' first | exact rfl | exact trivial | refine And.intro ?_ ?_); all_goals ((rw [List.take_zero, List.foldl_nil, show nats (List.replicate n.toNat 0) = List.replicate n.toNat [.i .i64 0] by simp [nats, natL, ints]]))) (by (repeat' first | exact rfl | exact trivial | refine And.intro ?_ ?_); all_goals ((rw [List.take_zero, List.foldl_nil, show nats (List.replicate n.toNat 0) = List.replicate n.toNat [.i .i64 0] by simp [nats, natL, ints]]))) (by rfl)) ?_
  rintro k hk
  have hB := rows_take_byt hR h8 k
  have hlen : ((E.take k).foldl rowStep (List.replicate n.toNat 0)).length = n.toNat := (rows_bit _ _ (by simp) fun x hx => hR.2.2.2.1 x (List.mem_of_mem_take hx)).1
  refine Pick.by (fun hc => ?_) (fun hc => ?_)
  · have hlt : k < E.length := by simpa [edges_length] using hc
    have hst : (E.take (k + 1)).foldl rowStep (List.replicate n.toNat 0) = rowStep ((E.take k).foldl rowStep (List.replicate n.toNat 0)) E[k] := by rw [List.take_succ_eq_append_getElem hlt, List.foldl_append]; rfl
    obtain ⟨o1, o2, o3⟩ := hR.2.2.2.1 _ (List.getElem_mem hlt)
    have hget := edges_get (List.getElem?_eq_getElem hlt)
    obtain ⟨a, ha⟩ : ∃ a : Nat, E[k].1 = a := ⟨E[k].1.toNat, by omega⟩
    obtain ⟨b, hb⟩ : ∃ b : Nat, E[k].2 = b := ⟨E[k].2.toNat, by omega⟩
    rw [ha, hb] at hget
    have hst2 : rowStep ((E.take k).foldl rowStep (List.replicate n.toNat 0)) E[k] = (((E.take k).foldl rowStep (List.replicate n.toNat 0)).set a (((E.take k).foldl rowStep (List.replicate n.toNat 0)).getD a 0 ||| 2 ^ b)).set b ((((E.take k).foldl rowStep (List.replicate n.toNat 0)).set a (((E.take k).foldl rowStep (List.replicate n.toNat 0)).getD a 0 ||| 2 ^ b)).getD b 0 ||| 2 ^ a) := by
      unfold rowStep; rw [ha, hb]; rfl
    rw [hst2] at hst
    generalize (E.take k).foldl rowStep (List.replicate n.toNat 0) = r at *
    have hx := getD_lt hB.2 (show 0 < 256 by omega) a
    have hs256 : (r.getD a 0 ||| 2 ^ b : Nat) < 256 := Nat.or_lt_two_pow (n := 8) hx (Nat.pow_lt_pow_right (by omega) (by omega))
    have hy : (r.set a (r.getD a 0 ||| 2 ^ b)).getD b 0 < 256 := getD_lt (fun x hx => by
      rcases List.mem_or_eq_of_mem_set hx with h | h
      · exact hB.2 x h
      · rw [h]; exact hs256) (by omega) b
    have hset : nats (r.set a (r.getD a 0 ||| 2 ^ b)) = (nats r).set a [.i .i64 (borI ((r.getD a 0 : Nat) : Int) (1 * 2 ^ ((b : Int)).toNat))] := by
      rw [nats_set, orbI hx (by omega)]
    refine Idx.by k rfl (by rw [edges_length]; exact hlt) ?_
    refine Look.by _ hget ?_
    refine Idx.by k rfl (by rw [edges_length]; exact hlt) ?_
    refine Look.by _ hget ?_
    refine Idx.by a rfl (by rw [nats_length]; omega) ?_
    refine Look.by _ (nats_get (by omega)) ?_
    refine Pick.T (inK_u64 (by omega) (by omega)) ?_
    refine Pick.T (by simp; omega) ?_
    refine Pick.T (one_shl (by omega)) ?_
    refine Idx.by a rfl (by rw [nats_length]; omega) ?_
    refine Look.by _ (nats_get (by omega)) ?_
    refine Idx.by b rfl (by simp [ints_length, natL_length]; omega) ?_
    refine Look.by _ (by show ((nats r).set a [.i .i64 (borI ((r.getD a 0 : Nat) : Int) (1 * 2 ^ ((b : Int)).toNat))])[b]? = _; rw [← hset]; exact nats_get (by rw [List.length_set]; omega)) ?_
    refine Pick.T (inK_u64 (by omega) (by omega)) ?_
    refine Pick.T (by simp; omega) ?_
    refine Pick.T (one_shl (by omega)) ?_
    refine Idx.by b rfl (by simp [ints_length, natL_length]; omega) ?_
    refine Look.by _ (by show ((nats r).set a [.i .i64 (borI ((r.getD a 0 : Nat) : Int) (1 * 2 ^ ((b : Int)).toNat))])[b]? = _; rw [← hset]; exact nats_get (by rw [List.length_set]; omega)) ?_
    refine Pick.T (inI64_of (by omega) (by omega)) ?_
    refine Next.by (k + 1) (by omega) (by omega) (by refine Weak.by [(0, some _), (1, some _), (2, some _)] (by (repeat' first | exact rfl | exact trivial | refine And.intro ?_ ?_); all_goals ((rw [hst, nats_set, hset, ← orbI hy (show a < 8 by omega)]; rfl))) (by (repeat' first | exact rfl | exact trivial | refine And.intro ?_ ?_); all_goals ((rw [hst, nats_set, hset, ← orbI hy (show a < 8 by omega)]; rfl))) (by rfl))
  · have hge : E.length ≤ k := by simpa [edges_length] using hc
    rw [List.take_of_length_le hge]
    exact ⟨rfl, rfl, rfl⟩
/-! ### carcanetref08.comes -/
theorem size_pos {k : Int} (hk : k = 1 ∨ k = 2) : ((sizeN k : Nat) : Int) = (patG k).1 := by rcases hk with rfl | rfl <;> decide
noncomputable def Comes8C (m : Nat) : Con := conP 2 (fun a : List Nat × Int => Byt a.1 ∧ a.1.length ≤ m ∧ (a.2 = 1 ∨ a.2 = 2)) (fun a => [.one (.flat false 1 (nats a.1)), .one (.s (.i .i64 a.2))]) (fun a => .one (.s (.b (hasL a.1 a.2))))
theorem Comes8C_at {m : Nat} {r : List Nat} {k : Int} (h : Byt r ∧ r.length ≤ m ∧ (k = 1 ∨ k = 2)) : (Comes8C m).F [.one (.flat false 1 (nats r)), .one (.s (.i .i64 k))] = some (.one (.s (.b (hasL r k))), []) :=
  conP_at (a := (r, k)) (fun x y _ _ h => by
    obtain ⟨r, a⟩ := x
    obtain ⟨r', a'⟩ := y
    simp at h
    obtain ⟨h1, h2⟩ := h
    rw [natL_inj (ints_inj h1), h2]) h
theorem has_small {r : List Nat} {k : Int} (h : r.length ≤ sizeN k) : hasL r k = (decide (r.length = sizeN k) && isL r k) := comes_end h
theorem has_step {r : List Nat} {k : Int} (h : sizeN k < r.length) : hasL r k = (((List.range r.length).any fun a => (List.range r.length).any fun b => decide (a < b) && (bitL r a b && hasL (mergedL r a b) k)) || (List.range r.length).any fun v => hasL (lessL r v) k) := by
  obtain ⟨f, hf⟩ : ∃ f, r.length = f + 1 := ⟨r.length - 1, by omega⟩
  have e : hasL r k = (((List.range r.length).any fun a => (List.range r.length).any fun b => decide (a < b) && (bitL r a b && comesL f (mergedL r a b) k)) || (List.range r.length).any fun v => comesL f (lessL r v) k) := by
    unfold hasL
    rw [hf]
    show (if r.length ≤ sizeN k then _ else _) = _
    rw [if_neg (by omega), hf]
  rw [e]
  congr 1
  · rw [Bool.eq_iff_iff, List.any_eq_true, List.any_eq_true]
    have : ∀ a, (∃ b ∈ List.range r.length, (decide (a < b) && (bitL r a b && comesL f (mergedL r a b) k)) = true) ↔ (∃ b ∈ List.range r.length, (decide (a < b) && (bitL r a b && hasL (mergedL r a b) k)) = true) := fun a => by
      refine exists_congr fun b => and_congr_right fun hb => ?_
      rw [hasL, mergedL_length (List.mem_range.1 hb), hf]; rfl
    refine exists_congr fun a => and_congr_right fun ha => ?_
    rw [List.any_eq_true, List.any_eq_true]
    exact this a
  · rw [Bool.eq_iff_iff, List.any_eq_true, List.any_eq_true]
    refine exists_congr fun v => and_congr_right fun hv => ?_
    rw [hasL, lessL_length (List.mem_range.1 hv), hf]; rfl
set_option maxHeartbeats 2000000 in
theorem Comes8_ok : ∀ m : Nat, SoundC Try.prog T 54 (Comes8C m) := by
  intro m
  induction m with
  | zero =>
    refine sound_con (X := { Γ := [(49, SizeC)], T := T, nt := 63 }) cr_none hmix hT (sound_cons Size_ok sound_nil) Try.func54 (by rfl) (by rfl) (by rfl) (by rfl) 2 ?_
    rintro ⟨r, k⟩ ⟨hB, hm, hk⟩
    dsimp only at hB hm hk ⊢
    have hz := size_pos hk
    have hz0 : 0 < sizeN k := by rcases hk with rfl | rfl <;> decide
    refine ⟨⟨Nat.le_of_ble_eq_true rfl, Nat.le_of_ble_eq_true rfl⟩, ?_⟩
    refine Call.by _ _ (SizeC_at k) ?_
    refine Pick.T (by simp [ints_length, natL_length]; omega) ?_
    refine Call.by _ _ (SizeC_at k) ?_
    refine Pick.F (by simp [ints_length, natL_length]; omega) ?_
    refine ⟨rfl, ?_⟩
    show Sc.b false = Sc.b (hasL r k)
    rw [has_small (by omega), decide_eq_false (by omega)]; rfl
  | succ m ih =>
    refine sound_con (X := { Γ := [(49, SizeC), (81, Is8C), (82, Merged8C), (83, Less8C), (54, Comes8C m)], T := T, nt := 63 }) cr_none hmix hT (sound_cons Size_ok (sound_cons Is8_ok (sound_cons Merged8_ok (sound_cons Less8_ok (sound_cons ih sound_nil))))) Try.func54 (by rfl) (by rfl) (by rfl) (by rfl) 2 ?_
    rintro ⟨r, k⟩ ⟨hB, hm, hk⟩
    dsimp only at hB hm hk ⊢
    have hz := size_pos hk
    have hl8 := hB.1
    refine ⟨⟨Nat.le_of_ble_eq_true rfl, Nat.le_of_ble_eq_true rfl⟩, ?_⟩
    refine Call.by _ _ (SizeC_at k) ?_
    refine Pick.by (fun hc => ?_) (fun hc => ?_)
    · have hle : r.length ≤ sizeN k := by rw [nats_length] at hc; have hc : decide ((r.length : Int) ≤ (patG k).1) = true := hc; have := of_decide_eq_true hc; omega
      rw [has_small hle]
      refine Call.by _ _ (SizeC_at k) ?_
      refine Pick.by (fun h2 => ?_) (fun h2 => ?_)
      · have h2 : r.length = sizeN k := by rw [nats_length] at h2; have h2 : ((r.length : Int) == (patG k).1) = true := h2; have := eq_of_beq h2; omega
        refine Call.by _ _ (Is8C_at ⟨hB, hk.elim (fun e => .inl ⟨e, by rw [h2, e]; decide⟩) fun e => .inr ⟨e, by rw [h2, e]; decide⟩⟩) ?_
        refine ⟨rfl, ?_⟩
        show Sc.b (isL r k) = Sc.b _
        rw [decide_eq_true h2, Bool.true_and]
      · have h2 : ¬ r.length = sizeN k := by rw [nats_length] at h2; have h2 : ((r.length : Int) == (patG k).1) = false := h2; intro e; simp at h2; omega
        refine ⟨rfl, ?_⟩
        show Sc.b false = Sc.b _
        rw [decide_eq_false h2, Bool.false_and]
    have hgt : sizeN k < r.length := by rw [nats_length] at hc; have hc : decide ((r.length : Int) ≤ (patG k).1) = false := hc; have := of_decide_eq_false hc; omega
    have hst := has_step hgt
    have yes1 : ∀ a b, a < b → b < r.length → bitL r a b = true → hasL (mergedL r a b) k = true → Sc.b true = Sc.b (hasL r k) := fun a b h1 h2 h3 h4 => by
      rw [hst]
      have : (List.range r.length).any (fun a => (List.range r.length).any fun b => decide (a < b) && (bitL r a b && hasL (mergedL r a b) k)) = true := List.any_eq_true.2 ⟨a, List.mem_range.2 (by omega), List.any_eq_true.2 ⟨b, List.mem_range.2 h2, by rw [h3, h4]; simp [h1]⟩⟩
      rw [this]; rfl
    have yes2 : ∀ v, v < r.length → hasL (lessL r v) k = true → Sc.b true = Sc.b (hasL r k) := fun v h1 h2 => by
      rw [hst]
      have : (List.range r.length).any (fun v => hasL (lessL r v) k) = true := List.any_eq_true.2 ⟨v, List.mem_range.2 h1, h2⟩
      rw [this, Bool.or_true]
    refine LoopP.intro (α := Nat) (fun a => a ≤ r.length ∧ ∀ a' b', a' < a → a' < b' → b' < r.length → bitL r a' b' = true → hasL (mergedL r a' b') k = false) (fun a => r.length - a) (fun a => [(0, .sl 0 none none), (1, .s (.i .i64 k)), (5, .s (.i .i64 (nats r).length)), (6, .s (.i .i64 a))])
      (fun a => [(0, some (.flat false 1 (nats r)))]) 1 0 ⟨by omega, by intros; omega⟩ (by refine Weak.by [(0, some _)] (by (repeat' first | exact rfl | exact trivial | refine And.intro ?_ ?_)) (by (repeat' first | exact rfl | exact trivial | refine And.intro ?_ ?_)) (by rfl)) ?_
    rintro a ⟨ha, hno⟩
    refine Pick.by (fun hc => ?_) (fun hc => ?_)
    · have hlt : a < r.length := by rw [nats_length] at hc; simpa using hc
      refine Pick.T (inI64_of (by omega) (by omega)) ?_
      refine LoopP.intro (α := Nat) (fun b => a < b ∧ b ≤ r.length ∧ ∀ b', a < b' → b' < b → bitL r a b' = true → hasL (mergedL r a b') k = false) (fun b => r.length - b) (fun b => [(0, .sl 0 none none), (1, .s (.i .i64 k)), (5, .s (.i .i64 (nats r).length)), (6, .s (.i .i64 a)), (7, .s (.i .i64 b))])
        (fun b => [(0, some (.flat false 1 (nats r)))]) 1 (a + 1) ⟨by omega, by omega, by intros; omega⟩ (by refine Weak.by [(0, some _)] (by (repeat' first | exact rfl | exact trivial | refine And.intro ?_ ?_)) (by (repeat' first | exact rfl | exact trivial | refine And.intro ?_ ?_)) (by rfl)) ?_
      rintro b ⟨hab, hb, hno2⟩
      refine Pick.by (fun hc2 => ?_) (fun hc2 => ?_)
      · have hblt : b < r.length := by rw [nats_length] at hc2; simpa using hc2
        have hx := getD_lt hB.2 (show 0 < 256 by omega) a
        have next : (bitL r a b = true → hasL (mergedL r a b) k = false) → ∀ b', a < b' → b' < b + 1 → bitL r a b' = true → hasL (mergedL r a b') k = false := fun h b' h1 h2 => by
          by_cases e : b' = b
          · rw [e]; exact h
          · exact hno2 b' h1 (by omega)
        refine Idx.by a rfl (by rw [nats_length]; exact hlt) ?_
        refine Look.by _ (nats_get hlt) ?_
        refine Pick.T (inK_u64 (by omega) (by omega)) ?_
        refine Pick.T (by simp; omega) ?_
        have hbit := bitI (r.getD a 0) b hx
        refine Pick.by (fun h3 => ?_) (fun h3 => ?_)
        · have h3 : bitL r a b = true := hbit.symm.trans h3
          refine Call.by _ _ (Merged8C_at ⟨hB, hlt, hblt⟩) ?_
          refine Call.by _ _ (Comes8C_at ⟨hB.merged hlt hblt, by rw [mergedL_length hblt]; omega, hk⟩) ?_
          refine Pick.by (fun h4 => ?_) (fun h4 => ?_)
          · exact ⟨rfl, yes1 a b hab hblt h3 h4⟩
          · have h4 : hasL (mergedL r a b) k = false := h4
            refine Pick.T (inI64_of (by omega) (by omega)) ?_
            refine Next.by (b + 1) ⟨by omega, by omega, next fun _ => h4⟩ (by omega) (by refine Weak.by [(0, some _)] (by (repeat' first | exact rfl | exact trivial | refine And.intro ?_ ?_)) (by (repeat' first | exact rfl | exact trivial | refine And.intro ?_ ?_)) (by rfl))
        · have h3 : bitL r a b = false := hbit.symm.trans h3
          refine Pick.T (inI64_of (by omega) (by omega)) ?_
          refine Next.by (b + 1) ⟨by omega, by omega, next fun h => by rw [h3] at h; cases h⟩ (by omega) (by refine Weak.by [(0, some _)] (by (repeat' first | exact rfl | exact trivial | refine And.intro ?_ ?_)) (by (repeat' first | exact rfl | exact trivial | refine And.intro ?_ ?_)) (by rfl))
      · have hbge : r.length ≤ b := by rw [nats_length] at hc2; simpa using hc2
        refine Pick.T (inI64_of (by omega) (by omega)) ?_
        refine Next.by (a + 1) ⟨by omega, fun a' b' h1 h2 h3 => ?_⟩ (by omega) (by refine Weak.by [(0, some _)] (by (repeat' first | exact rfl | exact trivial | refine And.intro ?_ ?_)) (by (repeat' first | exact rfl | exact trivial | refine And.intro ?_ ?_)) (by rfl))
        by_cases e : a' = a
        · subst e; exact hno2 b' h2 (by omega)
        · exact hno a' b' (by omega) h2 h3
    · have hge : r.length ≤ a := by rw [nats_length] at hc; simpa using hc
      refine LoopP.intro (α := Nat) (fun v => v ≤ r.length ∧ ∀ v', v' < v → hasL (lessL r v') k = false) (fun v => r.length - v) (fun v => [(0, .sl 0 none none), (1, .s (.i .i64 k)), (5, .s (.i .i64 (nats r).length)), (8, .s (.i .i64 v))])
        (fun v => [(0, some (.flat false 1 (nats r)))]) 1 0 ⟨by omega, by intros; omega⟩ (by refine Weak.by [(0, some _)] (by (repeat' first | exact rfl | exact trivial | refine And.intro ?_ ?_)) (by (repeat' first | exact rfl | exact trivial | refine And.intro ?_ ?_)) (by rfl)) ?_
      rintro v ⟨hv, hno2⟩
      refine Pick.by (fun hc2 => ?_) (fun hc2 => ?_)
      · have hvlt : v < r.length := by rw [nats_length] at hc2; simpa using hc2
        refine Call.by _ _ (Less8C_at ⟨hB, hvlt⟩) ?_
        refine Call.by _ _ (Comes8C_at ⟨hB.less hvlt, by rw [lessL_length hvlt]; omega, hk⟩) ?_
        refine Pick.by (fun h4 => ?_) (fun h4 => ?_)
        · exact ⟨rfl, yes2 v hvlt h4⟩
        · have h4 : hasL (lessL r v) k = false := h4
          refine Pick.T (inI64_of (by omega) (by omega)) ?_
          refine Next.by (v + 1) ⟨by omega, fun v' h1 => ?_⟩ (by omega) (by refine Weak.by [(0, some _)] (by (repeat' first | exact rfl | exact trivial | refine And.intro ?_ ?_)) (by (repeat' first | exact rfl | exact trivial | refine And.intro ?_ ?_)) (by rfl))
          by_cases e : v' = v
          · rw [e]; exact h4
          · exact hno2 v' (by omega)
      · have hvge : r.length ≤ v := by rw [nats_length] at hc2; simpa using hc2
        refine ⟨rfl, ?_⟩
        show Sc.b false = Sc.b (hasL r k)
        congr 1
        rw [hst]
        symm
        rw [Bool.or_eq_false_iff, List.any_eq_false, List.any_eq_false]
        refine ⟨fun a' ha' => ?_, fun v' hv' => ?_⟩
        · rw [Bool.not_eq_true, List.any_eq_false]
          intro b' hb'
          by_cases h1 : a' < b'
          · cases h2 : bitL r a' b' with
            | false => simp
            | true => rw [hno a' b' (by have := List.mem_range.1 ha'; omega) h1 (List.mem_range.1 hb') h2]; simp
          · simp [h1]
        · rw [hno2 v' (by have := List.mem_range.1 hv'; omega)]; simp
end Go.Sh

set_option linter.unusedVariables false
set_option linter.unusedSimpArgs false
namespace Go.Sh
open Go.Proofs
/-! ### carcanetref08.Has -/
noncomputable def hasB (n : Int) (E : List Ed) (k : Int) : Bool := decide (RightP n E) && (decide (n ≤ 8) && (decide ((patG k).1 ≠ 0) && hasL (rowsL n E) k))
noncomputable def Has8C : Con := conP 3 (fun _ : (Int × List Ed) × Int => True) (fun a => [grV a.1.1 a.1.2, .one (.s (.i .i64 a.2))]) (fun a => .one (.s (.b (hasB a.1.1 a.1.2 a.2))))
theorem Has8C_at (n : Int) (E : List Ed) (k : Int) : Has8C.F [grV n E, .one (.s (.i .i64 k))] = some (.one (.s (.b (hasB n E k))), []) :=
  conP_at (a := ((n, E), k)) (fun a b _ _ h => by
    obtain ⟨⟨n, E⟩, v⟩ := a
    obtain ⟨⟨n', E'⟩, v'⟩ := b
    simp at h
    obtain ⟨h1, h2⟩ := h
    obtain ⟨rfl, rfl⟩ := grV_inj h1
    subst h2
    rfl) trivial
theorem pat_kind {k : Int} (h : (patG k).1 ≠ 0) : k = 1 ∨ k = 2 := by
  rcases patG_cases k with ⟨h1, _⟩ | ⟨h1, _⟩ | ⟨_, _, e⟩
  · exact .inl h1
  · exact .inr h1
  · exact absurd (by rw [e]) h
theorem Has8_ok : SoundC Try.prog T 23 Has8C := by
  refine sound_con (X := { Γ := [(39, RightC), (49, SizeC), (55, Rows8C), (54, Comes8C 8)], T := T, nt := 22 }) cr_none hmix hT (sound_cons Right3_ok (sound_cons Size_ok (sound_cons Rows8_ok (sound_cons (Comes8_ok 8) sound_nil)))) Try.func23 (by rfl) (by rfl) (by rfl) (by rfl) 3 ?_
  rintro ⟨⟨n, E⟩, k⟩ -
  refine ⟨⟨Nat.le_of_ble_eq_true rfl, Nat.le_of_ble_eq_true rfl⟩, ?_⟩
  refine Call.by _ _ (RightC_at n E) ?_
  refine Pick.by (fun h1 => ?_) (fun h1 => ?_)
  · have h1 : ¬ RightP n E := by have h1 : (!decide (RightP n E)) = true := h1; simpa using h1
    refine ⟨rfl, ?_⟩
    show Sc.b false = Sc.b (hasB n E k)
    unfold hasB
    rw [decide_eq_false h1]; rfl
  have h1 : RightP n E := by have h1 : (!decide (RightP n E)) = false := h1; simpa using h1
  refine Pick.by (fun h2 => ?_) (fun h2 => ?_)
  · have h2 : ¬ n ≤ 8 := by simp at h2; omega
    refine ⟨rfl, ?_⟩
    show Sc.b false = Sc.b (hasB n E k)
    unfold hasB
    rw [decide_eq_false h2, Bool.false_and, Bool.and_false]
  have h2 : n ≤ 8 := by simp at h2; omega
  refine Call.by _ _ (SizeC_at k) ?_
  refine Pick.by (fun h3 => ?_) (fun h3 => ?_)
  · have h3 : (patG k).1 = 0 := by simpa using h3
    refine ⟨rfl, ?_⟩
    show Sc.b false = Sc.b (hasB n E k)
    unfold hasB
    rw [decide_eq_false (not_not_intro h3), Bool.false_and, Bool.and_false, Bool.and_false]
  have h3 : (patG k).1 ≠ 0 := by simpa using h3
  refine Call.by _ _ (Rows8C_at ⟨h1, h2⟩) ?_
  have hB := rows_byt h1 h2
  refine Call.by _ _ (Comes8C_at ⟨hB, hB.1, pat_kind h3⟩) ?_
  refine ⟨rfl, ?_⟩
  show Sc.b (hasL (rowsL n E) k) = Sc.b (hasB n E k)
  unfold hasB
  rw [decide_eq_true h1, decide_eq_true h2, decide_eq_true h3]; rfl
/-! ### carcanetlaw08.MinorTrue -/
noncomputable def MTrueF := conF (fun _ : (Int × List Ed) × Mo => True) (fun a => [grV a.1.1 a.1.2, moV false a.2.1 a.2.2]) (fun _ => .one (.s (.b true)))
theorem MTrue_ok : SoundP Try.prog 5 MTrueF := by
  refine con_pure (X := { Γ := [(15, ShownC), (16, OfC), (17, SmallC), (18, CheckC), (23, Has8C)], T := T, nt := 26 }) cr_none hmix hT (sound_cons (Shown_ok Unlike_ok) (sound_cons Of_ok (sound_cons Small_ok (sound_cons (Check_ok Unlike_ok) (sound_cons Has8_ok sound_nil))))) Try.func5 (by rfl) (by rfl) (by rfl) 4 ?_
  rintro ⟨⟨n, E⟩, k, S⟩ -
  refine ⟨⟨Nat.le_of_ble_eq_true rfl, Nat.le_of_ble_eq_true rfl⟩, ?_⟩
  refine Call.by _ _ ShownC_at ?_
  refine Call.by _ _ (OfC_at n E (most := 7) (by omega)) ?_
  refine Call.by _ _ (SmallC_at k S) ?_
  have hR := any_right (n := n) (l := E) (most := 7) (by omega) (by omega)
  have hn := (anyN_range (n := n) (most := 7) (by omega)).2
  obtain ⟨m, hm⟩ : ∃ m, anyN n 7 = m := ⟨_, rfl⟩
  obtain ⟨F, hF⟩ : ∃ F, anyE n E 7 = F := ⟨_, rfl⟩
  rw [hm, hF] at hR ⊢
  rw [hm] at hn
  refine Call.by _ _ (CheckC_at (n := m) (E := F) (cut_small S)) ?_
  refine Pick.by (fun h1 => ?_) (fun h1 => ?_)
  · exact ⟨rfl, rfl⟩
  · have h1 : checkB m F k (cutSets S) = true := by have h1 : (!checkB m F k (cutSets S)) = false := h1; simpa using h1
    have hc := checkB_iff.1 h1
    refine Call.by _ _ (Has8C_at m F k) ?_
    refine ⟨rfl, ?_⟩
    show Sc.b (hasB m F k) = Sc.b true
    unfold hasB
    rw [decide_eq_true hR, decide_eq_true (show m ≤ 8 by omega), decide_eq_true hc.2.1, chk_has hc]; rfl
/-! ### carcanetref08.Pattern -/
def rowP (k : Int) (a m : Nat) : List Ed := ((List.range m).filter fun j => joinB k a ((a + 1 + j : Nat) : Int)).map fun (j : Nat) => ((a : Int), ((a + 1 + j : Nat) : Int))
def pairP (k : Int) (n a : Nat) : List Ed := (List.range a).flatMap fun x => rowP k x (n - (x + 1))
theorem rowP_succ (k : Int) (a m : Nat) : rowP k a (m + 1) = rowP k a m ++ (if joinB k a ((a + 1 + m : Nat) : Int) = true then [((a : Int), ((a + 1 + m : Nat) : Int))] else []) := by
  unfold rowP
  rw [List.range_succ, List.filter_append, List.map_append]
  congr 1
  rw [List.filter_cons, List.filter_nil]
  split <;> rfl
theorem pairP_succ (k : Int) (n a : Nat) : pairP k n (a + 1) = pairP k n a ++ rowP k a (n - (a + 1)) := by
  unfold pairP
  rw [List.range_succ, List.flatMap_append]; simp
theorem rowP_len (k : Int) (a m : Nat) : (rowP k a m).length ≤ m := by
  unfold rowP
  rw [List.length_map]
  exact Nat.le_trans (List.length_filter_le _ _) (by simp)
theorem pairP_len (k : Int) (n a : Nat) : (pairP k n a).length ≤ a * n := by
  induction a with
  | zero => simp [pairP]
  | succ a ih =>
    rw [pairP_succ, List.length_append, Nat.succ_mul]
    have := rowP_len k a (n - (a + 1))
    omega
theorem pairP_all (k : Int) : pairP k (patG k).1.toNat (patG k).1.toNat = (patG k).2 := by
  rcases patG_cases k with ⟨rfl, _⟩ | ⟨rfl, _⟩ | ⟨_, _, h⟩
  · decide
  · decide
  · rw [h]; rfl
noncomputable def Pat8C : Con := conP 1 (fun _ : Int => True) (fun k => [.one (.s (.i .i64 k))]) (fun k => grO (patG k).1 (patG k).2)
theorem Pat8C_at (k : Int) : Pat8C.F [.one (.s (.i .i64 k))] = some (grO (patG k).1 (patG k).2, []) :=
  conP_at (a := k) (fun a b _ _ h => by simp at h; rw [h]) trivial
set_option maxHeartbeats 1000000 in
theorem Pat8_ok : SoundC Try.prog T 22 Pat8C := by
  refine sound_con (X := { Γ := [(49, SizeC), (52, JoinC)], T := T, nt := 36 }) cr_none hmix hT (sound_cons Size_ok (sound_cons Join_ok sound_nil)) Try.func22 (by rfl) (by rfl) (by rfl) (by rfl) 1 ?_
  intro k _
  refine ⟨⟨Nat.le_of_ble_eq_true rfl, Nat.le_of_ble_eq_true rfl⟩, ?_⟩
  obtain ⟨_, hn0, hn5, _⟩ := patG_ok k
  have hall := pairP_all k
  refine Call.by _ _ (SizeC_at k) ?_
  obtain ⟨n, hn⟩ : ∃ n : Nat, (patG k).1 = n := ⟨(patG k).1.toNat, by omega⟩
  rw [hn] at hn5 hall ⊢
  rw [Int.toNat_natCast] at hall
  refine LoopP.intro (α := Nat) (fun a => a ≤ n) (fun a => n - a) (fun a => [(0, .s (.i .i64 k)), (2, .ptr 0 0), (3, .ptr 1 0), (4, .s (.i .i64 a))])
    (fun a => [(0, some (.blk [.s (.i .i64 0), .nils])), (1, some (.blk [.s (.i .i64 n), .sl 2 none none])), (2, some (.flat true 2 (edges (pairP k n a))))]) 3 0 (by omega) (by refine Weak.by [(0, some _), (1, some _), (2, none)] (by (repeat' first | exact rfl | exact trivial | refine And.intro ?_ ?_)) (by (repeat' first | exact rfl | exact trivial | refine And.intro ?_ ?_)) (by rfl)) ?_
  rintro a ha
  have hpl := pairP_len k n a
  have h25 : a * n ≤ 25 := Nat.mul_le_mul (by omega : a ≤ 5) (by omega : n ≤ 5)
  refine Pick.by (fun hc => ?_) (fun hc => ?_)
  · have hlt : a < n := by simpa using hc
    refine Pick.T (inI64_of (by omega) (by omega)) ?_
    refine LoopP.intro (α := Nat) (fun b => a + 1 ≤ b ∧ b ≤ n) (fun b => n - b) (fun b => [(0, .s (.i .i64 k)), (2, .ptr 0 0), (3, .ptr 1 0), (4, .s (.i .i64 a)), (5, .s (.i .i64 b))])
      (fun b => [(0, some (.blk [.s (.i .i64 0), .nils])), (1, some (.blk [.s (.i .i64 n), .sl 2 none none])), (2, some (.flat true 2 (edges (pairP k n a ++ rowP k a (b - (a + 1))))))]) 3 (a + 1) ⟨by omega, by omega⟩ (by refine Weak.by [(0, some _), (1, some _), (2, some _)] (by (repeat' first | exact rfl | exact trivial | refine And.intro ?_ ?_); all_goals ((rw [Nat.sub_self, show rowP k a 0 = [] from rfl, List.append_nil]))) (by (repeat' first | exact rfl | exact trivial | refine And.intro ?_ ?_); all_goals ((rw [Nat.sub_self, show rowP k a 0 = [] from rfl, List.append_nil]))) (by rfl)) ?_
    rintro b ⟨hb1, hb2⟩
    have hrl := rowP_len k a (b - (a + 1))
    refine Pick.by (fun hc2 => ?_) (fun hc2 => ?_)
    · have hblt : b < n := by simpa using hc2
      have hst := rowP_succ k a (b - (a + 1))
      rw [show a + 1 + (b - (a + 1)) = b by omega, show b - (a + 1) + 1 = b + 1 - (a + 1) by omega] at hst
      refine Call.by _ _ (JoinC_at k a b) ?_
      refine Pick.by (fun hj => ?_) (fun hj => ?_)
      · have hj : joinB k a b = true := hj
        rw [if_pos hj] at hst
        refine Pick.T (by simp [cut, edges_length]; omega) ?_
        refine Pick.T (inI64_of (by omega) (by omega)) ?_
        refine Next.by (b + 1) ⟨by omega, by omega⟩ (by omega) (by refine Weak.by [(0, some _), (1, some _), (2, some _)] (by (repeat' first | exact rfl | exact trivial | refine And.intro ?_ ?_); all_goals ((rw [hst, ← List.append_assoc, edges_snoc]; rfl))) (by (repeat' first | exact rfl | exact trivial | refine And.intro ?_ ?_); all_goals ((rw [hst, ← List.append_assoc, edges_snoc]; rfl))) (by rfl))
      · have hj : joinB k a b = false := hj
        rw [if_neg (by rw [hj]; simp), List.append_nil] at hst
        refine Pick.T (inI64_of (by omega) (by omega)) ?_
        refine Next.by (b + 1) ⟨by omega, by omega⟩ (by omega) (by refine Weak.by [(0, some _), (1, some _), (2, some _)] (by (repeat' first | exact rfl | exact trivial | refine And.intro ?_ ?_); all_goals ((rw [hst]))) (by (repeat' first | exact rfl | exact trivial | refine And.intro ?_ ?_); all_goals ((rw [hst]))) (by rfl))
    · have hbge : b = n := by simp at hc2; omega
      subst hbge
      refine Pick.T (inI64_of (by omega) (by omega)) ?_
      refine Next.by (a + 1) (by omega) (by omega) (by refine Weak.by [(0, some _), (1, some _), (2, some _)] (by (repeat' first | exact rfl | exact trivial | refine And.intro ?_ ?_); all_goals ((rw [pairP_succ]))) (by (repeat' first | exact rfl | exact trivial | refine And.intro ?_ ?_); all_goals ((rw [pairP_succ]))) (by rfl))
  · have hge : a = n := by simp at hc; omega
    subst hge
    rw [hall]
    refine ⟨rfl, ?_⟩
    (repeat' first | exact rfl | exact trivial | refine And.intro ?_ ?_)
end Go.Sh

set_option linter.unusedVariables false
set_option linter.unusedSimpArgs false
namespace Go.Sh
open Go.Proofs
/-! ### carcanetlaw08.MinorPattern -/
def ones (m : Nat) : List (List Int) := (List.range m).map fun (j : Nat) => [(j : Int)]
theorem ones_succ (m : Nat) : ones (m + 1) = ones m ++ [[(m : Int)]] := by simp [ones, List.range_succ]
theorem right_pat (k : Int) : RightP (patG k).1 (patG k).2 := by
  rcases patG_cases k with ⟨_, h⟩ | ⟨_, h⟩ | ⟨_, _, h⟩ <;> rw [h] <;> refine ⟨by decide, by decide, by decide, ?_, ?_⟩ <;> simp [okE, ltE]
theorem whole_one {n : Int} {E : List Ed} {i : Int} (hR : RightP n E) (h0 : 0 ≤ i) (hn : i < n) : WholeP n E [i] :=
  ⟨hR, by simp, by simp, fun v hv => by simp at hv; omega, fun v hv => by simp at hv; subst hv; exact .base⟩
theorem chk_pat {k : Int} (h : (patG k).1 ≠ 0) : CheckP (patG k).1 (patG k).2 k (ones (patG k).1.toNat) := by
  have hR := right_pat k
  obtain ⟨_, h0, h5, _⟩ := patG_ok k
  refine ⟨hR, h, by simp [ones]; omega, fun l hl => ?_, ?_, ?_⟩
  · obtain ⟨j, hj, rfl⟩ := List.mem_map.1 hl
    have := List.mem_range.1 hj
    exact whole_one hR (by omega) (by omega)
  · rcases pat_kind h with rfl | rfl <;> decide
  · rcases pat_kind h with rfl | rfl <;> decide
theorem has_pat1 : hasB (patG 1).1 (patG 1).2 1 = true ∧ hasB (patG 1).1 (patG 1).2 2 = false := by
  have h : hasL (rowsL (patG 1).1 (patG 1).2) 1 = true := by decide +kernel
  have h2 : hasL (rowsL (patG 1).1 (patG 1).2) 2 = false := by decide +kernel
  constructor
  · unfold hasB; rw [decide_eq_true (right_pat 1), h]; rfl
  · unfold hasB; rw [decide_eq_true (right_pat 1), h2]; rfl
theorem has_pat2 : hasB (patG 2).1 (patG 2).2 1 = false ∧ hasB (patG 2).1 (patG 2).2 2 = true := by
  have h : hasL (rowsL (patG 2).1 (patG 2).2) 1 = false := by decide +kernel
  have h2 : hasL (rowsL (patG 2).1 (patG 2).2) 2 = true := by decide +kernel
  constructor
  · unfold hasB; rw [decide_eq_true (right_pat 2), h]; rfl
  · unfold hasB; rw [decide_eq_true (right_pat 2), h2]; rfl
theorem has_pat0 : hasB 0 [] 1 = false := by
  have h : hasL (rowsL 0 []) 1 = false := by decide +kernel
  unfold hasB; rw [h]; simp
theorem pat_facts (k : Int) : (checkB (patG k).1 (patG k).2 k (ones (patG k).1.toNat) = (if k = 1 then true else decide (k = 2))) ∧ hasB (patG k).1 (patG k).2 k = checkB (patG k).1 (patG k).2 k (ones (patG k).1.toNat) ∧
    (hasB (patG k).1 (patG k).2 1 && hasB (patG k).1 (patG k).2 2) = false := by
  rcases patG_cases k with ⟨rfl, h⟩ | ⟨rfl, h⟩ | ⟨h1, h2, h⟩
  · have hc := checkB_iff.2 (chk_pat (k := 1) (by decide))
    rw [hc, has_pat1.1, has_pat1.2]; simp
  · have hc := checkB_iff.2 (chk_pat (k := 2) (by decide))
    rw [hc, has_pat2.1, has_pat2.2]; simp
  · have hc : checkB (patG k).1 (patG k).2 k (ones (patG k).1.toNat) = false := checkB_no fun hc => hc.2.1 (by rw [h])
    have hh : hasB (patG k).1 (patG k).2 k = false := by
      unfold hasB; rw [decide_eq_false (p := (patG k).1 ≠ 0) (by rw [h]; simp)]; simp
    rw [hc, hh]
    refine ⟨by rw [if_neg h1, decide_eq_false h2], rfl, ?_⟩
    rw [h, has_pat0]; rfl
noncomputable def MPatF := conF (fun _ : Int => True) (fun a => [.one (.s (.i .i64 a))]) (fun _ => .one (.s (.b true)))
set_option maxHeartbeats 1000000 in
theorem MPat_ok : SoundP Try.prog 4 MPatF := by
  refine con_pure (X := { Γ := [(15, ShownC), (20, PatC), (22, Pat8C), (21, SameGC), (18, CheckC), (23, Has8C)], T := T, nt := 61 }) cr_none hmix hT (sound_cons (Shown_ok Unlike_ok) (sound_cons Pat_ok (sound_cons Pat8_ok (sound_cons SameG_ok (sound_cons (Check_ok Unlike_ok) (sound_cons Has8_ok sound_nil)))))) Try.func4 (by rfl) (by rfl) (by rfl) 1 ?_
  intro k _
  refine ⟨⟨Nat.le_of_ble_eq_true rfl, Nat.le_of_ble_eq_true rfl⟩, ?_⟩
  obtain ⟨hE6, hn0, hn5, _⟩ := patG_ok k
  obtain ⟨f1, f2, f3⟩ := pat_facts k
  refine Call.by _ _ ShownC_at ?_
  refine Call.by _ _ (PatC_at k) ?_
  refine Call.by _ _ (Pat8C_at k) ?_
  refine Call.by _ _ (SameGC_at (by omega)) ?_
  refine Seg.by (by kernel_rfl) ?_
  refine Pick.F (by simp) ?_
  obtain ⟨n, hn⟩ : ∃ n : Nat, (patG k).1 = n := ⟨(patG k).1.toNat, by omega⟩
  obtain ⟨E, hE⟩ : ∃ E, (patG k).2 = E := ⟨_, rfl⟩
  rw [hn, hE] at f1 f2 f3
  rw [hn] at hn5
  rw [hn, hE]
  rw [Int.toNat_natCast] at f1 f2
  refine LoopP.intro (α := Nat) (fun i => i ≤ n) (fun i => n - i) (fun i => [(0, .s (.i .i64 k)), (3, .s (.b true)), (4, .ptr 0 0), (5, .ptr 2 0), (6, .s (.i .i64 i))])
    (fun i => [(0, some (.blk [.s (.i .i64 n), .sl 1 none none])), (1, some (.flat true 2 (edges E))), (2, some (.blk [.s (.i .i64 k), .sl 3 none none])), (3, some (.nest true 1 (rowsI (ones i)) [] []))]) 4 0 (by omega) (by refine Weak.by [(0, some _), (1, some _), (2, some _), (3, none)] (by (repeat' first | exact rfl | exact trivial | refine And.intro ?_ ?_)) (by (repeat' first | exact rfl | exact trivial | refine And.intro ?_ ?_)) (by rfl)) ?_
  rintro i hi
  refine Pick.by (fun hc => ?_) (fun hc => ?_)
  · have hlt : i < n := by simpa using hc
    have hol : (rowsI (ones i)).length = i := by rw [rowsI_length]; simp [ones]
    refine Pick.T (by rw [hol]; simp; omega) ?_
    refine Pick.T (inI64_of (by omega) (by omega)) ?_
    refine Next.by (i + 1) (by omega) (by omega) (by refine Weak.by [(0, some _), (1, some _), (2, some _), (3, some _)] (by (repeat' first | exact rfl | exact trivial | refine And.intro ?_ ?_); all_goals ((rw [ones_succ, show rowsI (ones i ++ [[(i : Int)]]) = rowsI (ones i) ++ [ints [(i : Int)]] by simp [rowsI]]; rfl))) (by (repeat' first | exact rfl | exact trivial | refine And.intro ?_ ?_); all_goals ((rw [ones_succ, show rowsI (ones i ++ [[(i : Int)]]) = rowsI (ones i) ++ [ints [(i : Int)]] by simp [rowsI]]; rfl))) (by rfl))
  · have hge : i = n := by simp at hc; omega
    subst hge
    have hsm : small (ones i) := ⟨by simp [ones]; omega, fun l hl => by
      obtain ⟨j, _, rfl⟩ := List.mem_map.1 hl
      simp⟩
    have hC := CheckC_at (n := i) (E := E) (k := k) hsm
    have hH := Has8C_at i E k
    have hH1 := Has8C_at i E 1
    have hH2 := Has8C_at i E 2
    rw [f2, f1] at hH
    rw [f1] at hC
    by_cases h1 : k = 1
    · rw [if_pos h1] at hC hH f1
      refine Call.by _ _ hC ?_
      refine Pick.T (by simpa using h1) ?_
      refine Call.by _ _ hH ?_
      refine Call.by _ _ hC ?_
      refine Call.by _ _ hH1 ?_
      have e1 : hasB i E 1 = true := by rw [← h1, f2, f1]
      refine Pick.T e1 ?_
      refine Call.by _ _ hH2 ?_
      refine Seg.by (by kernel_rfl) ?_
      rw [e1, Bool.true_and] at f3
      refine ⟨rfl, ?_⟩
      show Sc.b (!hasB i E 2) = Sc.b true
      rw [f3]; rfl
    · rw [if_neg h1] at hC hH f1
      by_cases h2 : k = 2
      · rw [decide_eq_true h2] at hC hH f1
        refine Call.by _ _ hC ?_
        refine Pick.F (by simpa using h1) ?_
        refine Pick.T (by show (true == (k == 2)) = true; simpa using h2) ?_
        refine Call.by _ _ hH ?_
        refine Call.by _ _ hC ?_
        refine Call.by _ _ hH1 ?_
        have e1 : hasB i E 2 = true := by rw [← h2, f2, f1]
        rw [e1, Bool.and_true] at f3
        refine Pick.F f3 ?_
        refine Seg.by (by kernel_rfl) ?_
        exact ⟨rfl, rfl⟩
      · rw [decide_eq_false h2] at hC hH f1
        refine Call.by _ _ hC ?_
        refine Pick.F (by simpa using h1) ?_
        refine Pick.T (by show (false == (k == 2)) = true; simpa using h2) ?_
        refine Call.by _ _ hH ?_
        refine Call.by _ _ hC ?_
        refine Call.by _ _ hH1 ?_
        refine Pick.by (fun e1 => ?_) (fun e1 => ?_)
        · have e1 : hasB i E 1 = true := e1
          refine Call.by _ _ hH2 ?_
          refine Seg.by (by kernel_rfl) ?_
          rw [e1, Bool.true_and] at f3
          refine ⟨rfl, ?_⟩
          show Sc.b (!hasB i E 2) = Sc.b true
          rw [f3]; rfl
        · refine Seg.by (by kernel_rfl) ?_
          exact ⟨rfl, rfl⟩
end Go.Sh

set_option linter.unusedVariables false
set_option linter.unusedSimpArgs false
namespace Go.Sh
open Go.Proofs
/-! ### what is handed in, as data -/
theorem VTy.struct {T : Tab} {t : Nat} {ti : TI} {fs : List (Nat × Nat)} {v : V} (ht : lk T t = some ti) (hk : ti.kind = .struct fs) (h : VTy T t v) : ∃ cs, v = .agg cs ∧ All2 (fun (f : Nat × Nat) c => CTy T f.2 c) fs cs := by
  unfold VTy at h
  rw [ht] at h
  simp only at h
  rw [hk] at h
  exact h
theorem VTy.cell {T : Tab} {t : Nat} {ti : TI} {v : V} (ht : lk T t = some ti) (hk : ∀ fs, ti.kind ≠ .struct fs) (h : VTy T t v) : ∃ c, v = .one c ∧ CTy T t c := by
  unfold VTy at h
  rw [ht] at h
  simp only at h
  exact h
theorem ScTy.int {T : Tab} {t : Nat} {ti : TI} {k : IntKind} {x : Sc} (ht : lk T t = some ti) (hk : ti.kind = .int k) (h : ScTy T t x) : ∃ n, x = .i k n ∧ (Lit.int k n).wf = true := by
  unfold ScTy at h
  rw [ht] at h
  simp only at h
  rw [hk] at h
  cases x with
  | i k' n => obtain ⟨rfl, h⟩ := h; exact ⟨n, rfl, h⟩
  | b _ => exact h.elim
theorem CTy.sc {T : Tab} {t : Nat} {c : C} (hs : sliceE T t = none) (h : CTy T t c) : ∃ x, c = .s x ∧ ScTy T t x := by
  unfold CTy at h
  rw [hs] at h
  exact h
theorem CTy.flat {T : Tab} {t e : Nat} {c : C} (hs : sliceE T t = some e) (hs2 : sliceE T e = none) (h : CTy T t c) : ∃ rows, c = .flat false (sizeT T e) rows ∧ FlatTy T e rows := by
  unfold CTy at h
  rw [hs] at h
  simp only at h
  rw [hs2] at h
  exact h
theorem CTy.nest {T : Tab} {t e e2 : Nat} {c : C} (hs : sliceE T t = some e) (hs2 : sliceE T e = some e2) (h : CTy T t c) : ∃ rows, c = .nest false (sizeT T e2) rows ∧ rows.length ≤ maxLen ∧ ∀ fl ∈ rows, FlatTy T e2 fl := by
  unfold CTy at h
  rw [hs] at h
  simp only at h
  rw [hs2] at h
  exact h
theorem i64_wf {n : Int} (h : (Lit.int .i64 n).wf = true) : i64 n := by
  simp [Lit.wf, IntKind.min, IntKind.max, IntKind.signed, IntKind.bits] at h
  exact h
theorem list_ex {α β : Type} {P : α → β → Prop} : ∀ {l : List α}, (∀ x ∈ l, ∃ y, P x y) → ∃ m : List β, All2 P l m := by
  intro l
  induction l with
  | nil => intro _; exact ⟨[], All2.nil⟩
  | cons x l ih =>
    intro h
    obtain ⟨y, hy⟩ := h x (by simp)
    obtain ⟨m, hm⟩ := ih fun x hx => h x (by simp [hx])
    exact ⟨y :: m, All2.cons' hy hm⟩
theorem All2.map_eq {α β : Type} {f : β → α} {l : List α} {m : List β} (h : All2 (fun x y => x = f y) l m) : l = m.map f := by
  apply List.ext_getElem?
  intro i
  rw [List.getElem?_map]
  by_cases hi : i < l.length
  · have him : i < m.length := by rw [← h.1]; exact hi
    rw [List.getElem?_eq_getElem hi, List.getElem?_eq_getElem him, Option.map_some, h.2 i _ _ (List.getElem?_eq_getElem hi) (List.getElem?_eq_getElem him)]
  · rw [List.getElem?_eq_none (by omega), List.getElem?_eq_none (by rw [← h.1]; omega)]; rfl
theorem All2.mem {α β : Type} {R : α → β → Prop} {l : List α} {m : List β} (h : All2 R l m) {y : β} (hy : y ∈ m) : ∃ x ∈ l, R x y := by
  obtain ⟨i, hi⟩ := List.mem_iff_getElem?.1 hy
  have hl := (List.getElem?_eq_some_iff.1 hi).1
  rw [← h.1] at hl
  exact ⟨_, List.getElem_mem hl, h.2 i _ y (List.getElem?_eq_getElem hl) hi⟩
/-! #### at this program's types -/
theorem row_int {row : Row} (h : RowTy T 3 row) : ∃ n, row = [.i .i64 n] ∧ i64 n := by
  obtain ⟨x, rfl, hx⟩ := h
  obtain ⟨n, rfl, hw⟩ := ScTy.int (t := 3) rfl rfl hx
  exact ⟨n, rfl, i64_wf hw⟩
theorem ints_of {fl : Flat} (h : FlatTy T 3 fl) : ∃ l : List Int, fl = ints l ∧ l.length ≤ maxLen ∧ ∀ x ∈ l, i64 x := by
  obtain ⟨m, hm⟩ := list_ex (P := fun row n => row = [Sc.i .i64 n] ∧ i64 n) fun row hr => row_int (h.2 row hr)
  refine ⟨m, All2.map_eq (f := fun n => [Sc.i .i64 n]) (hm.imp fun _ _ _ k => k.1), by rw [← hm.1]; exact h.1, fun x hx => ?_⟩
  obtain ⟨_, _, k⟩ := hm.mem hx
  exact k.2
theorem rows_of {rows : List Flat} (h : ∀ fl ∈ rows, FlatTy T 3 fl) : ∃ S : List (List Int), rows = rowsI S ∧ rows64 S ∧ ∀ l ∈ S, l.length ≤ maxLen := by
  obtain ⟨m, hm⟩ := list_ex (P := fun (fl : Flat) l => fl = ints l ∧ l.length ≤ maxLen ∧ ∀ x ∈ l, i64 x) fun fl hf => ints_of (h fl hf)
  refine ⟨m, All2.map_eq (hm.imp fun _ _ _ k => k.1), fun l hl => ?_, fun l hl => ?_⟩
  · obtain ⟨_, _, k⟩ := hm.mem hl; exact k.2.2
  · obtain ⟨_, _, k⟩ := hm.mem hl; exact k.2.1
theorem All2.two {α β : Type} {R : α → β → Prop} {a b : α} {m : List β} (h : All2 R [a, b] m) : ∃ x y, m = [x, y] ∧ R a x ∧ R b y := by
  obtain ⟨h1, h2⟩ := h
  match m, h1, h2 with
  | [x, y], _, h2 => exact ⟨x, y, rfl, h2 0 a x rfl rfl, h2 1 b y rfl rfl⟩
theorem All2.one {α β : Type} {R : α → β → Prop} {a : α} {m : List β} (h : All2 R [a] m) : ∃ x, m = [x] ∧ R a x := by
  obtain ⟨h1, h2⟩ := h
  match m, h1, h2 with
  | [x], _, h2 => exact ⟨x, rfl, h2 0 a x rfl rfl⟩
theorem All2.three {α β : Type} {R : α → β → Prop} {a b c : α} {m : List β} (h : All2 R [a, b, c] m) : ∃ x y z, m = [x, y, z] ∧ R a x ∧ R b y ∧ R c z := by
  obtain ⟨h1, h2⟩ := h
  match m, h1, h2 with
  | [x, y, z], _, h2 => exact ⟨x, y, z, rfl, h2 0 a x rfl rfl, h2 1 b y rfl rfl, h2 2 c z rfl rfl⟩
theorem row_edge {row : Row} (h : RowTy T 77 row) : ∃ p : Ed, row = [.i .i64 p.1, .i .i64 p.2] ∧ i64 p.1 ∧ i64 p.2 := by
  obtain ⟨_, h⟩ := h
  obtain ⟨x, y, rfl, hx, hy⟩ := All2.two h
  obtain ⟨n, rfl, hn⟩ := ScTy.int (t := 3) rfl rfl hx
  obtain ⟨m, rfl, hm⟩ := ScTy.int (t := 3) rfl rfl hy
  exact ⟨(n, m), rfl, i64_wf hn, i64_wf hm⟩
theorem edges_of {fl : Flat} (h : FlatTy T 77 fl) : ∃ E : List Ed, fl = edges E ∧ E.length ≤ maxLen ∧ ∀ p ∈ E, i64 p.1 ∧ i64 p.2 := by
  obtain ⟨m, hm⟩ := list_ex (P := fun row (p : Ed) => row = [Sc.i .i64 p.1, Sc.i .i64 p.2] ∧ i64 p.1 ∧ i64 p.2) fun row hr => row_edge (h.2 row hr)
  refine ⟨m, All2.map_eq (f := fun p : Ed => [Sc.i .i64 p.1, Sc.i .i64 p.2]) (hm.imp fun _ _ _ k => k.1), by rw [← hm.1]; exact h.1, fun x hx => ?_⟩
  obtain ⟨_, _, k⟩ := hm.mem hx
  exact k.2
theorem int_of {v : V} (h : VTy T 3 v) : ∃ n, v = .one (.s (.i .i64 n)) ∧ i64 n := by
  obtain ⟨c, rfl, hc⟩ := VTy.cell (ti := { kind := .int .i64, size := _, bytes := _, zero := _, eqs := _, cells := _ }) rfl (fun fs => by simp) h
  obtain ⟨x, rfl, hx⟩ := CTy.sc rfl hc
  obtain ⟨n, rfl, hw⟩ := ScTy.int (t := 3) rfl rfl hx
  exact ⟨n, rfl, i64_wf hw⟩
theorem model_of {v : V} (h : VTy T 27 v) : ∃ k S, v = moV false k S ∧ i64 k ∧ rows64 S := by
  obtain ⟨cs, rfl, hcs⟩ := VTy.struct (t := 27) rfl rfl h
  obtain ⟨x, y, rfl, hx, hy⟩ := All2.two hcs
  obtain ⟨z, rfl, hz⟩ := CTy.sc (t := 3) rfl hx
  obtain ⟨n, rfl, hw⟩ := ScTy.int (t := 3) rfl rfl hz
  obtain ⟨rows, rfl, _, hr⟩ := CTy.nest (t := 25) (e := 38) (e2 := 3) rfl rfl hy
  obtain ⟨S, rfl, hS, _⟩ := rows_of hr
  exact ⟨n, S, rfl, i64_wf hw, hS⟩
theorem net_of {v : V} (h : VTy T 24 v) : ∃ n E, v = grV n E ∧ i64 n ∧ ∀ p ∈ E, i64 p.1 ∧ i64 p.2 := by
  obtain ⟨cs, rfl, hcs⟩ := VTy.struct (t := 24) rfl rfl h
  obtain ⟨x, y, rfl, hx, hy⟩ := All2.two hcs
  obtain ⟨z, rfl, hz⟩ := CTy.sc (t := 3) rfl hx
  obtain ⟨n, rfl, hw⟩ := ScTy.int (t := 3) rfl rfl hz
  obtain ⟨rows, rfl, hr⟩ := CTy.flat (t := 22) (e := 77) rfl rfl hy
  obtain ⟨E, rfl, _, hE⟩ := edges_of hr
  exact ⟨n, E, rfl, i64_wf hw, hE⟩
end Go.Sh

set_option linter.unusedVariables false
namespace Go.Sh
open Go.Proofs
theorem own : ownKnob Try.prog.godebug = none := by kernel_rfl
theorem laidOut : laidOutB Try.prog = true := by kernel_rfl
set_option maxRecDepth 100000 in
/-- A law whose function answers true, whatever comes. -/
theorem law_row {s : ChangeSpec} {f : FuncId} {fn : Func} {conds : List PathCond} {apart fresh handsOn : Bool} {ts : List TypeId} {F : List V → Option (V × List V)} (hf : Try.prog.funcs[f]? = some fn) (hin : Try.prog.inits.idxOf? f = none) (hv : s.vars = [])
    (hts : fn.params.toList = ts) (ha : ts.all (argB T) = true) (hr : ts.all (fun t => Try.prog.readableRec t && Nat.blt t Try.prog.types.size) = true) (hres : fn.resultTypes = #[4])
    (hsp : ∀ (H : Type) (ds : List (DataW H)), ds.length = ts.length → (s.fn H ds).results = [.lit (.bool true)] ∧ (s.fn H ds).args = ds ∧ (s.fn H ds).vars = [])
    (hS : SoundP Try.prog f F) (hF : LawV T ts F) (os : Os) (started : os.Started) (H : Type) (enc : TypeId × Value → H) (a : Assume)
    (hw : ∃ (w : World) (tape : Tape) (i : Input), w.os = os ∧ (w.forCall tape i).Shaped Try.checked.prog ∧ i.vars = [] ∧ Input.okWide Try.checked.prog (w.forCall tape i) .any w.heap.size f i ∧
      s.pre6 enc Try.checked.prog fn conds apart (w.forCall tape i).memory i.args ∧ a.holds Try.checked.prog (lone (Frame.enter Try.checked.prog f i.args .normal) [] (w.forCall tape i))) :
    ReturnsInHanded a Try.checked os f .any (s.pre6 enc Try.checked.prog fn conds apart) (s.post enc Try.checked.prog fn apart fresh handsOn false) := by
  refine returnsInHanded_of_change (C := Try.checked) own started hin hf hw ?_
  intro W base args ds gs before hval hW _ _
  refine law_contract (P := Try.prog) (conds := conds) hT laidOut hv hts ha (fun t ht => ?_) hres Try.underlying4 (hsp H) hS hF hval hW
  have := List.all_eq_true.1 hr t ht
  simp only [Bool.and_eq_true] at this
  exact ⟨this.1, Nat.le_of_ble_eq_true this.2⟩
end Go.Sh

set_option linter.unusedVariables false
namespace Go.Sh
open Go.Proofs
/-! ### MinorPattern -/
set_option maxRecDepth 100000 in
theorem minorPatternLaw : LawV T [3] MPatF := by
  intro vs h
  obtain ⟨x0, rfl, hx0⟩ := All2.one h
  obtain ⟨a0, rfl, ha0⟩ := int_of hx0
  exact ⟨_, conF_at (fun _ _ _ _ _ => rfl) (a := a0) (by first | trivial | assumption)⟩
set_option maxRecDepth 100000 in
theorem minorPatternLifted (os : Os) (started : os.Started) (H : Type) (enc : TypeId × Value → H) :
    ReturnsInHanded {} Try.checked os 4 .any (Ytddlfeclbffloaa.Rows.minorPatternSpec.pre6 enc Try.prog Try.f4 Ytddlfeclbffloaa.Rows.minorPatternRow.domain false) (Ytddlfeclbffloaa.Rows.minorPatternSpec.post enc Try.prog Try.f4 false true false false) :=
  law_row Try.func4 (by kernel_rfl) rfl (ts := [3]) (by kernel_rfl) (by kernel_rfl) (by kernel_rfl) (by kernel_rfl)
    (fun H ds h => by
      match ds, h with
      | [_], _ => exact ⟨rfl, rfl, rfl⟩)
    MPat_ok minorPatternLaw os started H enc {}
    (ChangeSpec.witness6 (enc := enc) (C := Try.checked) false ⟨#[], #[.int .i64 0], []⟩ 8 (by kernel_rfl) (by kernel_rfl) (by kernel_rfl) (by kernel_rfl))
theorem minorPatternOver : Ytddlfeclbffloaa.Rows.minorPatternRow.holds Ytddlfeclbffloaa.Try.pinned (OpenSpec.ofChange Ytddlfeclbffloaa.Rows.minorPatternSpec) :=
  OpenClaim.holds_of_wide 4 Try.f4 rfl rfl rfl rfl rfl rfl rfl ⟨rfl, rfl, rfl, rfl, rfl⟩ rfl rfl rfl rfl rfl (by kernel_rfl) Try.func4 (by kernel_rfl)
    (of_decide_eq_true (by kernel_rfl)) (by unfold Func.isWrapper; first | (rw [if_pos (by decide +kernel)]; kernel_rfl) | (rw [if_neg (by decide +kernel)]; exact ⟨rfl, rfl⟩))
    (fun os started H enc _ => minorPatternLifted os started H enc)
end Go.Sh
namespace Go.Proofs.Ytddlfeclbffloaa
theorem minorPattern_holds : Rows.MinorPatternSaid := Go.Sh.minorPatternOver
#print axioms minorPattern_holds
end Go.Proofs.Ytddlfeclbffloaa
