/- The statement MinorNone of the given program is proved: whatever is handed in, the law answers true, changes nothing that was there, and comes back. No condition. -/
import Derived.Test.YtddlfeclbffloaaFn2
import Derived.Test.YtddlfeclbffloaaRows
set_option linter.unusedVariables false
set_option linter.unusedSimpArgs false
namespace Go.Sh
open Go.Proofs
/-! ### carcanetlaw08.MinorMoves -/
def i64 (x : Int) : Prop := -9223372036854775808 ≤ x ∧ x ≤ 9223372036854775807
def rows64 (S : List (List Int)) : Prop := ∀ l ∈ S, ∀ x ∈ l, i64 x
def clI (x : Int) : Int := mnI x 4611686018427387904
def clP (j : Nat) (row : List Int) : List Int := (row.take j).map clI ++ row.drop j
theorem clP_length (j : Nat) (row : List Int) : (clP j row).length = row.length := by simp [clP]; omega
theorem clP_get {j : Nat} {row : List Int} (h : j < row.length) : (clP j row)[j]? = some row[j] := by
  unfold clP
  rw [List.getElem?_append_right (by rw [List.length_map, List.length_take]; omega), List.length_map, List.length_take, show min j row.length = j by omega, Nat.sub_self, List.getElem?_drop, Nat.add_zero, List.getElem?_eq_getElem h]
theorem clP_step {j : Nat} {row : List Int} (h : j < row.length) : clP (j + 1) row = (clP j row).set j (clI row[j]) := by
  unfold clP
  rw [take_snoc _ h, drop_cons h, List.set_append_right _ _ (by rw [List.length_map, List.length_take]; omega), List.length_map, List.length_take, show min j row.length = j by omega, Nat.sub_self]
  simp only [List.set_cons_zero, List.append_assoc, List.cons_append, List.nil_append]
theorem clP_all (row : List Int) (j : Nat) (h : row.length ≤ j) : clP j row = row.map clI := by
  unfold clP
  rw [List.take_of_length_le h, List.drop_eq_nil_of_le h, List.append_nil]
theorem clP_zero (row : List Int) : clP 0 row = row := by simp [clP]
def ClI (S : List (List Int)) (i j : Nat) (R : List (List Int)) : Prop := R.length = S.length ∧ ∀ r row, S[r]? = some row → R[r]? = some (if r < i then row.map clI else if r = i then clP j row else row)
theorem ClI.at {S R : List (List Int)} {i j : Nat} (h : ClI S i j R) {row : List Int} (hi : S[i]? = some row) : R[i]? = some (clP j row) := by
  have := h.2 i row hi
  rwa [if_neg (by omega), if_pos rfl] at this
theorem ClI.step {S R : List (List Int)} {i j : Nat} (h : ClI S i j R) {row : List Int} (hi : S[i]? = some row) : ClI S i (j + 1) (R.set i (clP (j + 1) row)) := by
  refine ⟨by rw [List.length_set]; exact h.1, fun r w hr => ?_⟩
  rw [List.getElem?_set]
  by_cases e : i = r
  · subst e
    rw [hi] at hr
    injection hr with hr
    subst hr
    rw [if_pos rfl, if_pos (by rw [h.1]; exact (List.getElem?_eq_some_iff.1 hi).1), if_neg (by omega), if_pos rfl]
  · rw [if_neg e, h.2 r w hr, if_neg (show ¬ r = i by omega), if_neg (show ¬ r = i by omega)]
theorem ClI.next {S R : List (List Int)} {i j : Nat} (h : ClI S i j R) {row : List Int} (hi : S[i]? = some row) (hj : row.length ≤ j) : ClI S (i + 1) 0 R := by
  refine ⟨h.1, fun r w hr => ?_⟩
  rw [h.2 r w hr]
  by_cases e : r < i
  · rw [if_pos e, if_pos (by omega)]
  · by_cases e2 : r = i
    · subst e2
      rw [hi] at hr
      injection hr with hr
      subst hr
      rw [if_neg e, if_pos rfl, if_pos (by omega), clP_all _ _ hj]
    · rw [if_neg e, if_neg e2, if_neg (by omega)]
      split
      · rw [clP_zero]
      · rfl
theorem ClI.done {S R : List (List Int)} {i : Nat} (h : ClI S i 0 R) (hi : S.length ≤ i) : R = S.map fun l => l.map clI := by
  apply List.ext_getElem?
  intro r
  by_cases hr : r < S.length
  · rw [h.2 r _ (List.getElem?_eq_getElem hr), if_pos (by omega)]
    simp [hr]
  · rw [List.getElem?_eq_none (by rw [h.1]; omega), List.getElem?_eq_none (by simp; omega)]
theorem ClI.zero (S : List (List Int)) : ClI S 0 0 S := ⟨rfl, fun r row h => by
  rw [if_neg (by omega), clP_zero]
  split <;> exact h⟩
theorem drop_same (v : Int) (l : List Int) : dropRow v l = drop8 v l := by
  unfold dropRow drop8 aboveF
  by_cases h : v < 0
  · rw [if_pos h]
    have : (fun x : Int => if v ≥ 0 ∧ x ≥ v then x + 1 else x) = id := funext fun x => by rw [if_neg (by omega)]; rfl
    rw [this, List.map_id]
  · rw [if_neg h]
    refine List.map_congr_left fun x _ => ?_
    by_cases hx : x ≥ v
    · rw [if_pos hx, if_pos ⟨by omega, hx⟩]
    · rw [if_neg hx, if_neg (fun h => hx h.2)]
theorem lift_same (a b : Int) (l : List Int) : liftRow (mnI a b) (mxI a b) l = lift8 (mnI a b) (mxI a b) l := by
  have hm : mnI a b ≤ mxI a b := by unfold mnI mxI; split <;> split <;> omega
  unfold liftRow lift8
  have h1 : drop8 (-1) l = l := by rw [← drop_same]; rfl
  by_cases h : mnI a b < 0 ∨ mnI a b = mxI a b
  · rw [if_pos h, if_pos h, h1]
  · have h2 : drop8 (mxI a b) l = aboveF l (mxI a b) := by rw [← drop_same]; exact if_neg (by omega)
    rw [if_neg h, if_neg h, h2]
noncomputable def MovesF := conF (fun a : Mo × Int × Int => rows64 a.1.2) (fun a => [moV false a.1.1 a.1.2, .one (.s (.i .i64 a.2.1)), .one (.s (.i .i64 a.2.2))]) (fun a => .one (.s (.b true)))
set_option maxHeartbeats 2000000 in
theorem Moves_ok (hU : SoundC Try.prog T 77 UnlikeC) : SoundP Try.prog 7 MovesF := by
  refine con_pure (X := { Γ := [(15, ShownC), (17, SmallC), (25, LiftMC), (26, Lift8C), (24, same8C), (27, DropMC), (28, Drop8C)], T := T, nt := 70 }) cr_none hmix hT (sound_cons (Shown_ok hU) (sound_cons Small_ok (sound_cons LiftM_ok (sound_cons Lift8_ok (sound_cons same8_ok (sound_cons DropM_ok (sound_cons Drop8_ok sound_nil))))))) Try.func7 (by rfl) (by rfl) (by rfl) 4 ?_
  rintro ⟨⟨kd, S0⟩, a, b⟩ hS
  dsimp only at hS
  refine ⟨⟨Nat.le_of_ble_eq_true rfl, Nat.le_of_ble_eq_true rfl⟩, ?_⟩
  refine Call.by _ _ ShownC_at ?_
  refine Call.by _ _ (SmallC_at kd S0) ?_
  obtain ⟨S, hSe⟩ : ∃ S, S = cutSets S0 := ⟨_, rfl⟩
  rw [← hSe]
  have hSl : S.length ≤ 6 := by rw [hSe]; simp [cutSets]; omega
  have hSr : ∀ l ∈ S, l.length ≤ 20 ∧ ∀ x ∈ l, i64 x := by
    intro l hl
    rw [hSe] at hl
    obtain ⟨m, hm, rfl⟩ := List.mem_map.1 hl
    exact ⟨by simp; omega, fun x hx => hS m (List.mem_of_mem_take hm) x (List.mem_of_mem_take hx)⟩
  refine LoopP.intro (α := List (List Int) × Nat) (fun p => p.2 ≤ S.length ∧ ClI S p.2 0 p.1) (fun p => S.length - p.2) (fun p => [(1, .s (.i .i64 a)), (2, .s (.i .i64 b)), (7, .s (.b true)), (8, .ptr 0 0), (9, .s (.i .i64 p.2))])
    (fun p => [(0, some (.blk [.s (.i .i64 kd), .sl 1 none none])), (1, some (.nest true 1 (rowsI p.1) [] []))]) 2 (S, 0) ⟨by simp, ClI.zero S⟩ (by refine Weak.by [(0, some _), (1, some _)] (by (repeat' first | exact rfl | exact trivial | refine And.intro ?_ ?_)) (by (repeat' first | exact rfl | exact trivial | refine And.intro ?_ ?_)) (by rfl)) ?_
  rintro ⟨R, i⟩ ⟨hi, hR⟩
  dsimp only at hi hR
  refine Pick.by (fun hc => ?_) (fun hc => ?_)
  · have hlt : i < S.length := by rw [rowsI_length] at hc; have : R.length = S.length := hR.1; simp at hc; omega
    have hSi : S[i]? = some S[i] := List.getElem?_eq_getElem hlt
    obtain ⟨hr1, hr2⟩ := hSr _ (List.getElem_mem hlt)
    refine LoopP.intro (α := List (List Int) × Nat) (fun p => p.2 ≤ S[i].length ∧ ClI S i p.2 p.1) (fun p => S[i].length - p.2) (fun p => [(1, .s (.i .i64 a)), (2, .s (.i .i64 b)), (7, .s (.b true)), (8, .ptr 0 0), (9, .s (.i .i64 i)), (10, .s (.i .i64 p.2))])
      (fun p => [(0, some (.blk [.s (.i .i64 kd), .sl 1 none none])), (1, some (.nest true 1 (rowsI p.1) [] []))]) 2 (R, 0) ⟨by simp, hR⟩ (by refine Weak.by [(0, some _), (1, some _)] (by (repeat' first | exact rfl | exact trivial | refine And.intro ?_ ?_)) (by (repeat' first | exact rfl | exact trivial | refine And.intro ?_ ?_)) (by rfl)) ?_
    rintro ⟨Q, j⟩ ⟨hj, hQ⟩
    dsimp only at hj hQ
    have hQl : i < (rowsI Q).length := by rw [rowsI_length, hQ.1]; exact hlt
    have hQi := rowsI_get (hQ.at hSi)
    refine Idx.by i rfl hQl ?_
    refine Pick.T (by simpa using hQl) ?_
    refine Look.by _ hQi ?_
    refine Pick.by (fun hd => ?_) (fun hd => ?_)
    · have hjl : j < S[i].length := by rw [ints_length, clP_length] at hd; simpa using hd
      have hx := hr2 _ (List.getElem_mem hjl)
      refine Idx.by i rfl hQl ?_
      refine Pick.T (by simpa using hQl) ?_
      refine Idx.by i rfl hQl ?_
      refine Pick.T (by simpa using hQl) ?_
      refine Look.by _ hQi ?_
      refine Idx.by j rfl (by rw [ints_length, clP_length]; exact hjl) ?_
      refine Look.by _ hQi ?_
      refine Look.by _ (ints_get (clP_get hjl)) ?_
      refine Look.by _ hQi ?_
      refine Idx.by j rfl (by rw [ints_length, clP_length]; exact hjl) ?_
      refine Look.by _ hQi ?_
      refine Look.by _ (ints_get (clP_get hjl)) ?_
      refine Seg.by (by kernel_rfl) ?_
      refine Pick.T (inI64_of (by omega) (by omega)) ?_
      refine Next.by (Q.set i (clP (j + 1) S[i]), j + 1) ⟨by omega, hQ.step hSi⟩ (by show S[i].length - (j + 1) < S[i].length - j; omega) (by refine Weak.by [(0, some _), (1, some _)] (by (repeat' first | exact rfl | exact trivial | refine And.intro ?_ ?_); all_goals (rw [clP_step hjl]; unfold rowsI; rw [List.map_set, ints_set]; rfl)) (by (repeat' first | exact rfl | exact trivial | refine And.intro ?_ ?_); all_goals (rw [clP_step hjl]; unfold rowsI; rw [List.map_set, ints_set]; rfl)) (by rfl))
    · have hge : S[i].length ≤ j := by rw [ints_length, clP_length] at hd; simpa using hd
      refine Pick.T (inI64_of (by omega) (by omega)) ?_
      refine Next.by (Q, i + 1) ⟨by omega, hQ.next hSi hge⟩ (by show S.length - (i + 1) < S.length - i; omega) (by refine Weak.by [(0, some _), (1, some _)] (by (repeat' first | exact rfl | exact trivial | refine And.intro ?_ ?_)) (by (repeat' first | exact rfl | exact trivial | refine And.intro ?_ ?_)) (by rfl))
  have hge : S.length ≤ i := by rw [rowsI_length] at hc; have : R.length = S.length := hR.1; simp at hc; omega
  have hRe := hR.done hge
  have hRl : R.length ≤ 6 := by rw [hR.1]; exact hSl
  have hRr : ∀ l ∈ R, l.length ≤ 20 ∧ ∀ x ∈ l, -9223372036854775808 ≤ x ∧ x ≤ 4611686018427387904 := by
    intro l hl
    rw [hRe] at hl
    obtain ⟨m, hm, rfl⟩ := List.mem_map.1 hl
    refine ⟨by rw [List.length_map]; exact (hSr m hm).1, fun x hx => ?_⟩
    obtain ⟨y, hy, rfl⟩ := List.mem_map.1 hx
    have := (hSr m hm).2 y hy
    unfold i64 at this
    unfold clI mnI
    split <;> omega
  have hmR : milds R := ⟨by omega, fun x hx => ⟨by have := (hRr x hx).1; omega, (hRr x hx).2⟩⟩
  have hsm1 : small (R.map (lift8 (mnI a b) (mxI a b))) := by
    refine ⟨by rw [List.length_map]; omega, fun x hx => ?_⟩
    obtain ⟨y, hy, rfl⟩ := List.mem_map.1 hx
    have := (hRr y hy).1
    unfold lift8 drop8
    split
    · simp; omega
    · split <;> simp <;> omega
  have hsm2 : small (R.map (drop8 a)) := by
    refine ⟨by rw [List.length_map]; omega, fun x hx => ?_⟩
    obtain ⟨y, hy, rfl⟩ := List.mem_map.1 hx
    have := (hRr y hy).1
    unfold drop8
    simp; omega
  have hL : R.map (liftRow (mnI a b) (mxI a b)) = R.map (lift8 (mnI a b) (mxI a b)) := List.map_congr_left fun l _ => lift_same a b l
  have hD : R.map (dropRow a) = R.map (drop8 a) := List.map_congr_left fun l _ => drop_same a l
  have c1 := LiftMC_at (k := kd) a b hmR
  rw [hL] at c1
  have c2 := DropMC_at (k := kd) a hmR
  rw [hD] at c2
  refine Call.by _ _ c1 ?_
  refine Call.by _ _ (Lift8C_at a b hmR) ?_
  refine Call.by _ _ (same8C_at hsm1 hsm1) ?_
  rw [decide_eq_true rfl]
  refine Call.by _ _ c2 ?_
  refine Call.by _ _ (Drop8C_at a hmR) ?_
  refine Call.by _ _ (same8C_at hsm2 hsm2) ?_
  rw [decide_eq_true rfl]
  refine Seg.by (by kernel_rfl) ?_
  exact ⟨rfl, rfl⟩
end Go.Sh

set_option linter.unusedVariables false
set_option linter.unusedSimpArgs false
namespace Go.Sh
open Go.Proofs
/-! ### carcanetlaw08.MinorCheck, MinorNone -/
noncomputable def MCheckF := conF (fun _ : (Int × List Ed) × Mo => True) (fun a => [grV a.1.1 a.1.2, moV false a.2.1 a.2.2]) (fun _ => .one (.s (.b true)))
theorem MCheck_ok : SoundP Try.prog 3 MCheckF := by
  refine con_pure (X := { Γ := [(15, ShownC), (16, OfC), (17, SmallC), (18, CheckC), (19, Check8C)], T := T, nt := 23 }) cr_none hmix hT (sound_cons (Shown_ok Unlike_ok) (sound_cons Of_ok (sound_cons Small_ok (sound_cons (Check_ok Unlike_ok) (sound_cons Check8_ok sound_nil))))) Try.func3 (by rfl) (by rfl) (by rfl) 4 ?_
  rintro ⟨⟨n, E⟩, k, S⟩ -
  refine ⟨⟨Nat.le_of_ble_eq_true rfl, Nat.le_of_ble_eq_true rfl⟩, ?_⟩
  refine Call.by _ _ ShownC_at ?_
  refine Call.by _ _ (OfC_at n E (most := 20) (by omega)) ?_
  refine Call.by _ _ (SmallC_at k S) ?_
  have hR := any_right (n := n) (l := E) (most := 20) (by omega) (by omega)
  obtain ⟨m, hm⟩ : ∃ m, anyN n 20 = m := ⟨_, rfl⟩
  obtain ⟨F, hF⟩ : ∃ F, anyE n E 20 = F := ⟨_, rfl⟩
  rw [hm, hF] at hR ⊢
  refine Call.by _ _ (CheckC_at (n := m) (E := F) (cut_small S)) ?_
  refine Call.by _ _ (Check8C_at (n := m) (E := F) ⟨by have := hR.2.2.1; omega, cut_tiny S⟩) ?_
  refine Seg.by (by kernel_rfl) ?_
  refine ⟨rfl, ?_⟩
  show Sc.b (checkB m F k (cutSets S) == checkB m F k (cutSets S)) = Sc.b true
  simp
noncomputable def MNoneF := conF (fun _ : (Int × List Ed) × Mo => True) (fun a => [grV a.1.1 a.1.2, moV false a.2.1 a.2.2]) (fun _ => .one (.s (.b true)))
theorem MNone_ok : SoundP Try.prog 6 MNoneF := by
  refine con_pure (X := { Γ := [(15, ShownC), (16, OfC), (17, SmallC), (18, CheckC)], T := T, nt := 57 }) cr_none hmix hT (sound_cons (Shown_ok Unlike_ok) (sound_cons Of_ok (sound_cons Small_ok (sound_cons (Check_ok Unlike_ok) sound_nil)))) Try.func6 (by rfl) (by rfl) (by rfl) 4 ?_
  rintro ⟨⟨n, E⟩, k, S⟩ -
  refine ⟨⟨Nat.le_of_ble_eq_true rfl, Nat.le_of_ble_eq_true rfl⟩, ?_⟩
  refine Call.by _ _ ShownC_at ?_
  refine Call.by _ _ (OfC_at n E (most := 20) (by omega)) ?_
  have hR := any_right (n := n) (l := E) (most := 20) (by omega) (by omega)
  obtain ⟨m, hm⟩ : ∃ m, anyN n 20 = m := ⟨_, rfl⟩
  obtain ⟨F, hF⟩ : ∃ F, anyE n E 20 = F := ⟨_, rfl⟩
  rw [hm, hF] at hR ⊢
  have hFl := hR.2.2.1
  refine Rng.by 0 (min F.length 5) rfl ?_ (by omega) ?_ ?_
  · rw [edges_length]
    show (if (5 : Int) < (F.length : Int) then (5 : Int) else (F.length : Int)) = _
    split <;> omega
  · rw [edges_length]; omega
  refine Call.by _ _ (SmallC_at k S) ?_
  have hcut : cut (subOf none 0 0 (min F.length 5)) (edges F) = edges (F.take 5) := by
    simp only [subOf, cut, List.drop_zero, Nat.sub_zero, edges, List.map_take]
    rw [List.take_eq_take_iff]; simp; omega
  have hfew := CheckC_at (n := m) (E := F.take 5) (k := k) (cut_small S)
  rw [grV, ← hcut, checkB_no chk_few] at hfew
  refine Call.by _ _ hfew ?_
  refine Call.by _ _ (OfC_at n E (most := 4) (by omega)) ?_
  have hR4 := any_right (n := n) (l := E) (most := 4) (by omega) (by omega)
  have hr4 := (anyN_range (n := n) (most := 4) (by omega)).2
  obtain ⟨m4, hm4⟩ : ∃ m, anyN n 4 = m := ⟨_, rfl⟩
  obtain ⟨F4, hF4⟩ : ∃ F, anyE n E 4 = F := ⟨_, rfl⟩
  rw [hm4, hF4] at hR4 ⊢
  rw [hm4] at hr4
  have other : ¬ (m4 = 4 ∧ k = 1) → checkB m4 F4 k (cutSets S) = false := fun h => checkB_no fun hc => by
    have := chk_n hc
    rcases patG_cases k with ⟨h1, e⟩ | ⟨_, e⟩ | ⟨_, _, e⟩
    · rw [e] at this
      exact h ⟨by dsimp only at this; omega, h1⟩
    · rw [e] at this
      dsimp only at this
      omega
    · exact hc.2.1 (by rw [e])
  refine Pick.by (fun h1 => ?_) (fun h1 => ?_)
  · have h1 : m4 = 4 := by simpa using h1
    refine Pick.by (fun h2 => ?_) (fun h2 => ?_)
    · have h2 : k = 1 := by simpa using h2
      refine Call.by _ _ (CheckC_at (n := m4) (E := F4) (k := k) (cut_small S)) ?_
      refine Pick.by (fun h3 => ?_) (fun h3 => ?_)
      · exact ⟨rfl, rfl⟩
      · have h3 : checkB m4 F4 k (cutSets S) = true := by have h3 : (!checkB m4 F4 k (cutSets S)) = false := h3; simpa using h3
        have hc := checkB_iff.1 h3
        have h6 := chk_edges hc
        rw [h1] at hR4
        have h7 := right4 hR4
        refine ⟨rfl, ?_⟩
        show Sc.b (((edges F4).length : Int) == 6) = Sc.b true
        rw [edges_length, show F4.length = 6 by omega]
        rfl
    · have h2 : ¬ k = 1 := by simpa using h2
      refine Call.by _ _ (CheckC_at (n := m4) (E := F4) (k := k) (cut_small S)) ?_
      rw [other fun h => h2 h.2]
      exact ⟨rfl, rfl⟩
  · have h1 : ¬ m4 = 4 := by simpa using h1
    refine Call.by _ _ (CheckC_at (n := m4) (E := F4) (k := k) (cut_small S)) ?_
    rw [other fun h => h1 h.1]
    exact ⟨rfl, rfl⟩
end Go.Sh

set_option linter.unusedVariables false
set_option linter.unusedSimpArgs false
namespace Go.Sh
open Go.Proofs
/-! ### what is handed in, as data -/
theorem VTy.struct {T : Tab} {t : Nat} {ti : TI} {fs : List (Nat × Nat)} {v : V} (ht : lk T t = some ti) (hk : ti.kind = .struct fs) (h : VTy T t v) : ∃ cs, v = .agg cs ∧ All2 (fun (f : Nat × Nat) c => CTy T f.2 c) fs cs := by
  unfold VTy at h
  rw [ht] at h
  simp only at h
  rw [hk] at h
  exact h
theorem VTy.cell {T : Tab} {t : Nat} {ti : TI} {v : V} (ht : lk T t = some ti) (hk : ∀ fs, ti.kind ≠ .struct fs) (h : VTy T t v) : ∃ c, v = .one c ∧ CTy T t c := by
  unfold VTy at h
  rw [ht] at h
  simp only at h
  exact h
theorem ScTy.int {T : Tab} {t : Nat} {ti : TI} {k : IntKind} {x : Sc} (ht : lk T t = some ti) (hk : ti.kind = .int k) (h : ScTy T t x) : ∃ n, x = .i k n ∧ (Lit.int k n).wf = true := by
  unfold ScTy at h
  rw [ht] at h
  simp only at h
  rw [hk] at h
  cases x with
  | i k' n => obtain ⟨rfl, h⟩ := h; exact ⟨n, rfl, h⟩
  | b _ => exact h.elim
theorem CTy.sc {T : Tab} {t : Nat} {c : C} (hs : sliceE T t = none) (h : CTy T t c) : ∃ x, c = .s x ∧ ScTy T t x := by
  unfold CTy at h
  rw [hs] at h
  exact h
theorem CTy.flat {T : Tab} {t e : Nat} {c : C} (hs : sliceE T t = some e) (hs2 : sliceE T e = none) (h : CTy T t c) : ∃ rows, c = .flat false (sizeT T e) rows ∧ FlatTy T e rows := by
  unfold CTy at h
  rw [hs] at h
  simp only at h
  rw [hs2] at h
  exact h
theorem CTy.nest {T : Tab} {t e e2 : Nat} {c : C} (hs : sliceE T t = some e) (hs2 : sliceE T e = some e2) (h : CTy T t c) : ∃ rows, c = .nest false (sizeT T e2) rows ∧ rows.length ≤ maxLen ∧ ∀ fl ∈ rows, FlatTy T e2 fl := by
  unfold CTy at h
  rw [hs] at h
  simp only at h
  rw [hs2] at h
  exact h
theorem i64_wf {n : Int} (h : (Lit.int .i64 n).wf = true) : i64 n := by
  simp [Lit.wf, IntKind.min, IntKind.max, IntKind.signed, IntKind.bits] at h
  exact h
theorem list_ex {α β : Type} {P : α → β → Prop} : ∀ {l : List α}, (∀ x ∈ l, ∃ y, P x y) → ∃ m : List β, All2 P l m := by
  intro l
  induction l with
  | nil => intro _; exact ⟨[], All2.nil⟩
  | cons x l ih =>
    intro h
    obtain ⟨y, hy⟩ := h x (by simp)
    obtain ⟨m, hm⟩ := ih fun x hx => h x (by simp [hx])
    exact ⟨y :: m, All2.cons' hy hm⟩
theorem All2.map_eq {α β : Type} {f : β → α} {l : List α} {m : List β} (h : All2 (fun x y => x = f y) l m) : l = m.map f := by
  apply List.ext_getElem?
  intro i
  rw [List.getElem?_map]
  by_cases hi : i < l.length
  · have him : i < m.length := by rw [← h.1]; exact hi
    rw [List.getElem?_eq_getElem hi, List.getElem?_eq_getElem him, Option.map_some, h.2 i _ _ (List.getElem?_eq_getElem hi) (List.getElem?_eq_getElem him)]
  · rw [List.getElem?_eq_none (by omega), List.getElem?_eq_none (by rw [← h.1]; omega)]; rfl
theorem All2.mem {α β : Type} {R : α → β → Prop} {l : List α} {m : List β} (h : All2 R l m) {y : β} (hy : y ∈ m) : ∃ x ∈ l, R x y := by
  obtain ⟨i, hi⟩ := List.mem_iff_getElem?.1 hy
  have hl := (List.getElem?_eq_some_iff.1 hi).1
  rw [← h.1] at hl
  exact ⟨_, List.getElem_mem hl, h.2 i _ y (List.getElem?_eq_getElem hl) hi⟩
/-! #### at this program's types -/
theorem row_int {row : Row} (h : RowTy T 3 row) : ∃ n, row = [.i .i64 n] ∧ i64 n := by
  obtain ⟨x, rfl, hx⟩ := h
  obtain ⟨n, rfl, hw⟩ := ScTy.int (t := 3) rfl rfl hx
  exact ⟨n, rfl, i64_wf hw⟩
theorem ints_of {fl : Flat} (h : FlatTy T 3 fl) : ∃ l : List Int, fl = ints l ∧ l.length ≤ maxLen ∧ ∀ x ∈ l, i64 x := by
  obtain ⟨m, hm⟩ := list_ex (P := fun row n => row = [Sc.i .i64 n] ∧ i64 n) fun row hr => row_int (h.2 row hr)
  refine ⟨m, All2.map_eq (f := fun n => [Sc.i .i64 n]) (hm.imp fun _ _ _ k => k.1), by rw [← hm.1]; exact h.1, fun x hx => ?_⟩
  obtain ⟨_, _, k⟩ := hm.mem hx
  exact k.2
theorem rows_of {rows : List Flat} (h : ∀ fl ∈ rows, FlatTy T 3 fl) : ∃ S : List (List Int), rows = rowsI S ∧ rows64 S ∧ ∀ l ∈ S, l.length ≤ maxLen := by
  obtain ⟨m, hm⟩ := list_ex (P := fun (fl : Flat) l => fl = ints l ∧ l.length ≤ maxLen ∧ ∀ x ∈ l, i64 x) fun fl hf => ints_of (h fl hf)
  refine ⟨m, All2.map_eq (hm.imp fun _ _ _ k => k.1), fun l hl => ?_, fun l hl => ?_⟩
  · obtain ⟨_, _, k⟩ := hm.mem hl; exact k.2.2
  · obtain ⟨_, _, k⟩ := hm.mem hl; exact k.2.1
theorem All2.two {α β : Type} {R : α → β → Prop} {a b : α} {m : List β} (h : All2 R [a, b] m) : ∃ x y, m = [x, y] ∧ R a x ∧ R b y := by
  obtain ⟨h1, h2⟩ := h
  match m, h1, h2 with
  | [x, y], _, h2 => exact ⟨x, y, rfl, h2 0 a x rfl rfl, h2 1 b y rfl rfl⟩
theorem All2.one {α β : Type} {R : α → β → Prop} {a : α} {m : List β} (h : All2 R [a] m) : ∃ x, m = [x] ∧ R a x := by
  obtain ⟨h1, h2⟩ := h
  match m, h1, h2 with
  | [x], _, h2 => exact ⟨x, rfl, h2 0 a x rfl rfl⟩
theorem All2.three {α β : Type} {R : α → β → Prop} {a b c : α} {m : List β} (h : All2 R [a, b, c] m) : ∃ x y z, m = [x, y, z] ∧ R a x ∧ R b y ∧ R c z := by
  obtain ⟨h1, h2⟩ := h
  match m, h1, h2 with
  | [x, y, z], _, h2 => exact ⟨x, y, z, rfl, h2 0 a x rfl rfl, h2 1 b y rfl rfl, h2 2 c z rfl rfl⟩
theorem row_edge {row : Row} (h : RowTy T 77 row) : ∃ p : Ed, row = [.i .i64 p.1, .i .i64 p.2] ∧ i64 p.1 ∧ i64 p.2 := by
  obtain ⟨_, h⟩ := h
  obtain ⟨x, y, rfl, hx, hy⟩ := All2.two h
  obtain ⟨n, rfl, hn⟩ := ScTy.int (t := 3) rfl rfl hx
  obtain ⟨m, rfl, hm⟩ := ScTy.int (t := 3) rfl rfl hy
  exact ⟨(n, m), rfl, i64_wf hn, i64_wf hm⟩
theorem edges_of {fl : Flat} (h : FlatTy T 77 fl) : ∃ E : List Ed, fl = edges E ∧ E.length ≤ maxLen ∧ ∀ p ∈ E, i64 p.1 ∧ i64 p.2 := by
  obtain ⟨m, hm⟩ := list_ex (P := fun row (p : Ed) => row = [Sc.i .i64 p.1, Sc.i .i64 p.2] ∧ i64 p.1 ∧ i64 p.2) fun row hr => row_edge (h.2 row hr)
  refine ⟨m, All2.map_eq (f := fun p : Ed => [Sc.i .i64 p.1, Sc.i .i64 p.2]) (hm.imp fun _ _ _ k => k.1), by rw [← hm.1]; exact h.1, fun x hx => ?_⟩
  obtain ⟨_, _, k⟩ := hm.mem hx
  exact k.2
theorem int_of {v : V} (h : VTy T 3 v) : ∃ n, v = .one (.s (.i .i64 n)) ∧ i64 n := by
  obtain ⟨c, rfl, hc⟩ := VTy.cell (ti := { kind := .int .i64, size := _, bytes := _, zero := _, eqs := _, cells := _ }) rfl (fun fs => by simp) h
  obtain ⟨x, rfl, hx⟩ := CTy.sc rfl hc
  obtain ⟨n, rfl, hw⟩ := ScTy.int (t := 3) rfl rfl hx
  exact ⟨n, rfl, i64_wf hw⟩
theorem model_of {v : V} (h : VTy T 27 v) : ∃ k S, v = moV false k S ∧ i64 k ∧ rows64 S := by
  obtain ⟨cs, rfl, hcs⟩ := VTy.struct (t := 27) rfl rfl h
  obtain ⟨x, y, rfl, hx, hy⟩ := All2.two hcs
  obtain ⟨z, rfl, hz⟩ := CTy.sc (t := 3) rfl hx
  obtain ⟨n, rfl, hw⟩ := ScTy.int (t := 3) rfl rfl hz
  obtain ⟨rows, rfl, _, hr⟩ := CTy.nest (t := 25) (e := 38) (e2 := 3) rfl rfl hy
  obtain ⟨S, rfl, hS, _⟩ := rows_of hr
  exact ⟨n, S, rfl, i64_wf hw, hS⟩
theorem net_of {v : V} (h : VTy T 24 v) : ∃ n E, v = grV n E ∧ i64 n ∧ ∀ p ∈ E, i64 p.1 ∧ i64 p.2 := by
  obtain ⟨cs, rfl, hcs⟩ := VTy.struct (t := 24) rfl rfl h
  obtain ⟨x, y, rfl, hx, hy⟩ := All2.two hcs
  obtain ⟨z, rfl, hz⟩ := CTy.sc (t := 3) rfl hx
  obtain ⟨n, rfl, hw⟩ := ScTy.int (t := 3) rfl rfl hz
  obtain ⟨rows, rfl, hr⟩ := CTy.flat (t := 22) (e := 77) rfl rfl hy
  obtain ⟨E, rfl, _, hE⟩ := edges_of hr
  exact ⟨n, E, rfl, i64_wf hw, hE⟩
end Go.Sh

set_option linter.unusedVariables false
namespace Go.Sh
open Go.Proofs
theorem own : ownKnob Try.prog.godebug = none := by kernel_rfl
theorem laidOut : laidOutB Try.prog = true := by kernel_rfl
set_option maxRecDepth 100000 in
/-- A law whose function answers true, whatever comes. -/
theorem law_row {s : ChangeSpec} {f : FuncId} {fn : Func} {conds : List PathCond} {apart fresh handsOn : Bool} {ts : List TypeId} {F : List V → Option (V × List V)} (hf : Try.prog.funcs[f]? = some fn) (hin : Try.prog.inits.idxOf? f = none) (hv : s.vars = [])
    (hts : fn.params.toList = ts) (ha : ts.all (argB T) = true) (hr : ts.all (fun t => Try.prog.readableRec t && Nat.blt t Try.prog.types.size) = true) (hres : fn.resultTypes = #[4])
    (hsp : ∀ (H : Type) (ds : List (DataW H)), ds.length = ts.length → (s.fn H ds).results = [.lit (.bool true)] ∧ (s.fn H ds).args = ds ∧ (s.fn H ds).vars = [])
    (hS : SoundP Try.prog f F) (hF : LawV T ts F) (os : Os) (started : os.Started) (H : Type) (enc : TypeId × Value → H) (a : Assume)
    (hw : ∃ (w : World) (tape : Tape) (i : Input), w.os = os ∧ (w.forCall tape i).Shaped Try.checked.prog ∧ i.vars = [] ∧ Input.okWide Try.checked.prog (w.forCall tape i) .any w.heap.size f i ∧
      s.pre6 enc Try.checked.prog fn conds apart (w.forCall tape i).memory i.args ∧ a.holds Try.checked.prog (lone (Frame.enter Try.checked.prog f i.args .normal) [] (w.forCall tape i))) :
    ReturnsInHanded a Try.checked os f .any (s.pre6 enc Try.checked.prog fn conds apart) (s.post enc Try.checked.prog fn apart fresh handsOn false) := by
  refine returnsInHanded_of_change (C := Try.checked) own started hin hf hw ?_
  intro W base args ds gs before hval hW _ _
  refine law_contract (P := Try.prog) (conds := conds) hT laidOut hv hts ha (fun t ht => ?_) hres Try.underlying4 (hsp H) hS hF hval hW
  have := List.all_eq_true.1 hr t ht
  simp only [Bool.and_eq_true] at this
  exact ⟨this.1, Nat.le_of_ble_eq_true this.2⟩
end Go.Sh

set_option linter.unusedVariables false
namespace Go.Sh
open Go.Proofs
/-! ### MinorNone -/
set_option maxRecDepth 100000 in
theorem minorNoneLaw : LawV T [24, 27] MNoneF := by
  intro vs h
  obtain ⟨x0, x1, rfl, hx0, hx1⟩ := All2.two h
  obtain ⟨n0, E0, rfl, _, hE0⟩ := net_of hx0
  obtain ⟨k1, S1, rfl, _, hS1⟩ := model_of hx1
  exact ⟨_, conF_at (fun _ _ _ _ _ => rfl) (a := ((n0, E0), (k1, S1))) (by first | trivial | assumption)⟩
set_option maxRecDepth 100000 in
theorem minorNoneLifted (os : Os) (started : os.Started) (H : Type) (enc : TypeId × Value → H) :
    ReturnsInHanded {} Try.checked os 6 .any (Ytddlfeclbffloaa.Rows.minorNoneSpec.pre6 enc Try.prog Try.f6 Ytddlfeclbffloaa.Rows.minorNoneRow.domain false) (Ytddlfeclbffloaa.Rows.minorNoneSpec.post enc Try.prog Try.f6 false true false false) :=
  law_row Try.func6 (by kernel_rfl) rfl (ts := [24, 27]) (by kernel_rfl) (by kernel_rfl) (by kernel_rfl) (by kernel_rfl)
    (fun H ds h => by
      match ds, h with
      | [_, _], _ => exact ⟨rfl, rfl, rfl⟩)
    MNone_ok minorNoneLaw os started H enc {}
    (ChangeSpec.witness6 (enc := enc) (C := Try.checked) false ⟨#[], #[.agg #[.int .i64 0, .slice none 0 0], .agg #[.int .i64 0, .slice none 0 0]], []⟩ 8 (by kernel_rfl) (by kernel_rfl) (by kernel_rfl) (by kernel_rfl))
theorem minorNoneOver : Ytddlfeclbffloaa.Rows.minorNoneRow.holds Ytddlfeclbffloaa.Try.pinned (OpenSpec.ofChange Ytddlfeclbffloaa.Rows.minorNoneSpec) :=
  OpenClaim.holds_of_wide 6 Try.f6 rfl rfl rfl rfl rfl rfl rfl ⟨rfl, rfl, rfl, rfl, rfl⟩ rfl rfl rfl rfl rfl (by kernel_rfl) Try.func6 (by kernel_rfl)
    (of_decide_eq_true (by kernel_rfl)) (by unfold Func.isWrapper; first | (rw [if_pos (by decide +kernel)]; kernel_rfl) | (rw [if_neg (by decide +kernel)]; exact ⟨rfl, rfl⟩))
    (fun os started H enc _ => minorNoneLifted os started H enc)
end Go.Sh
namespace Go.Proofs.Ytddlfeclbffloaa
theorem minorNone_holds : Rows.MinorNoneSaid := Go.Sh.minorNoneOver
#print axioms minorNone_holds
end Go.Proofs.Ytddlfeclbffloaa
